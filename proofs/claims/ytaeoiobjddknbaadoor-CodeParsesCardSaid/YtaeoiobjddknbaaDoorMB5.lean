/- Hexadecimal digits: the package's Hex and the document's. -/
import Derived.Test.YtaeoiobjddknbaaDoorMB3
import Derived.Test.YtaeoiobjddknbaaDoorMA71
import Derived.Test.YtaeoiobjddknbaaDoorMS2
namespace Go.V
open Go.Proofs
set_option maxRecDepth 100000
set_option maxHeartbeats 4000000
set_option linter.unusedSimpArgs false
set_option linter.unnecessarySimpa false
set_option linter.unusedVariables false
def bS (l : List UInt8) : List SB := match l with
 | [] => [.struct [.nilp, .nils]]
 | x :: r => [.struct [.ptr 0 0, .own 1], .row true 1 .byte (x :: r)]
theorem bS_nil : bS [] = [.struct [.nilp, .nils]] := rfl
theorem bS_cons {x : UInt8} {r : List UInt8} : bS (x :: r) = [.struct [.ptr 0 0, .own 1], .row true 1 .byte (x :: r)] := rfl
theorem hexL_nil : hexL [] = [] := rfl
theorem hexL_take {l : List UInt8} {i : Nat} (h : i < l.length) : hexL (l.take (i + 1)) = hexL (l.take i) ++ hexC (l[i]) := by
 unfold hexL
 rw [List.take_succ_eq_append_getElem h, List.flatMap_append, List.flatMap_cons, List.flatMap_nil, List.append_nil]
theorem and15 {m : Int} (h0 : 0 ≤ m) (h1 : m < 256) : bitsI .and .u8 m 15 = m % 16 := by
 have : ∀ n : Nat, n < 256 → bitsI .and .u8 (n : Int) 15 = (n : Int) % 16 := by decide +kernel
 have := this m.toNat (by omega)
 rwa [Int.toNat_of_nonneg h0] at this
theorem u8_back (x : UInt8) : UInt8.ofNat ((x.toNat : Int)).toNat = x := by simp
theorem swd {c : Bool} {p : Prop} [Decidable p] {A B : Prop} (hc : c = decide p) (h1 : p → A) (h2 : ¬ p → B) : sw c A B := by
 subst hc
 exact sw_intro (fun h => h1 (of_decide_eq_true h)) (fun h => h2 (of_decide_eq_false h))
theorem swn {c : Bool} {p : Prop} [Decidable p] {A B : Prop} (hc : c = !decide p) (h1 : ¬ p → A) (h2 : p → B) : sw c A B := by
 subst hc
 exact sw_intro (fun h => h1 (by simpa using h)) (fun h => h2 (by simpa using h))
theorem hexC_def (c : UInt8) : hexC c = [hexT.getD (c.toNat / 16) 0, hexT.getD (c.toNat % 16) 0] := rfl
theorem getD_eq {l : List UInt8} {i : Nat} (h : i < l.length) : l.getD i 0 = l[i] := by simp [List.getD, h]
theorem hex_two {c : UInt8} {m1 m2 m3 m4 : Int} (h1 : m1 = (c.toNat : Int).fdiv (2 ^ min 4 8)) (h2 : m2 = ((hexT.getD m1.toNat 0).toNat : Int)) (h3 : m3 = bitsI .and .u8 (c.toNat : Int) 15) (h4 : m4 = ((hexT.getD m3.toNat 0).toNat : Int)) :
  (0 ≤ m1 ∧ m1 < 16) ∧ (0 ≤ m3 ∧ m3 < 16) ∧ [UInt8.ofNat m2.toNat, UInt8.ofNat m4.toNat] = hexC c := by
 have hc := UInt8.toNat_lt c
 rw [and15 (by omega) (by omega)] at h3
 have e1 : m1 = (c.toNat : Int) / 16 := by
  rw [h1, Int.fdiv_eq_ediv_of_nonneg _ (by decide)]
  rfl
 refine ⟨by omega, by omega, ?_⟩
 have e2 : m1.toNat = c.toNat / 16 := by omega
 have e3 : m3.toNat = c.toNat % 16 := by omega
 rw [hexC_def, h2, h4, u8_back, u8_back, e2, e3]
def hexB (s : ByteArray) : ByteArray := bsOf (hexL s.data.toList)
def C31 : Contract := fun args hp K => match args, hp with
 | [.str s], [] => s.size ≤ 100000 ∧ K (.str (hexB s)) []
 | _, _ => False
def L31 (s : ByteArray) : LoopAnn := cntA (fun i => ⟨[(0, .str s), (3, .pty 0 71), (6, .int .i64 s.size), (7, .int .i64 i)], bS (hexL (s.data.toList.take i))⟩) s.size
attribute [local irreducible] rc
theorem s31 : Sound Tryd.prog 31 C31 := by
 refine sound_of_okF ok31 (.cons s63 (callable_of_okF ok63) (.cons s34 ⟨_, Tryd.func34, rfl, by decide⟩ .nil)) ?_
 intro args hp K h
 unfold C31 at h
 split at h
 ·rename_i s
  obtain ⟨hs, h⟩ := h
  have hmx := maxLen_val
  have hl : s.data.toList.length = s.size := Array.length_toList
  refine ⟨by simp, [(1, L31 s)], ?_⟩
  simp (maxSteps:=9^9) only [a31, r31, go_sem, Int.reduceLT, Int.reduceLE, Int.reduceEq, Int.reduceNe, Int.reduceAdd, Int.reduceSub, Int.reduceMul, Int.reduceToNat, Int.reduceNeg, Nat.reduceEqDiff, Nat.reduceLeDiff, Nat.reduceSub, Nat.reduceMul, Nat.reduceLT, Nat.reduceBEq, Nat.reduceAdd]
  rintro _ m rfl
  refine loop_intro (A := L31 s) (0 : Nat) ?_ (Nat.zero_le _) ?_
  ·simp (maxSteps:=9^9) only [go_sem, Int.reduceLT, Int.reduceLE, Int.reduceEq, Int.reduceNe, Int.reduceAdd, Int.reduceSub, Int.reduceMul, Int.reduceToNat, Int.reduceNeg, Nat.reduceEqDiff, Nat.reduceLeDiff, Nat.reduceSub, Nat.reduceMul, Nat.reduceLT, Nat.reduceBEq, Nat.reduceAdd]
   rfl
  ·intro (i : Nat) (hi : i ≤ s.size)
   rcases Nat.eq_zero_or_pos i with rfl | hpos
   ·unfold L31
    simp (maxSteps:=9^9) only [cntA_I, List.take_zero, hexL_nil, bS_nil, C63, C34, go_sem, Int.reduceLT, Int.reduceLE, Int.reduceEq, Int.reduceNe, Int.reduceAdd, Int.reduceSub, Int.reduceMul, Int.reduceToNat, Int.reduceNeg, Nat.reduceEqDiff, Nat.reduceLeDiff, Nat.reduceSub, Nat.reduceMul, Nat.reduceLT, Nat.reduceBEq, Nat.reduceAdd]
    intro c hc
    refine swd hc (fun h0 => ?_) (fun h0 => ?_)
    ·refine nd_intro h0 ?_
     rintro m rfl _ _ m1 h1
     have e0 : s.data.toList.getD 0 0 = s.data.toList[0]'(by omega) := getD_eq (by omega)
     obtain ⟨k1, k2, k3⟩ := hex_two h1 rfl rfl rfl
     refine nd_intro k1 ?_
     rintro m2 h2
     refine nd_intro h0 ?_
     rintro _ rfl _ _ m3 h3
     rw [h3]
     refine nd_intro k2 ?_
     rintro m4 h4 _ _ m5 h5
     rw [w64 (by omega)] at h5
     refine cntA_next h0 ?_
     rw [h2, h4, h5]
     have e5 : hexL (s.data.toList.take (0 + 1)) = hexC (s.data.toList.getD 0 0) := by rw [hexL_take (by omega), e0]; rfl
     rw [e5, ← k3]
     rfl
    ·have e : s = ByteArray.empty := by
      have : s.data = #[] := Array.eq_empty_of_size_eq_zero (by show s.size = 0; omega)
      cases s; simp at this; subst this; rfl
     subst e
     exact h
   ·obtain ⟨x, r, e⟩ : ∃ x r, hexL (s.data.toList.take i) = x :: r := by
     obtain ⟨j, rfl⟩ : ∃ j, i = j + 1 := ⟨i - 1, by omega⟩
     rw [hexL_take (by omega)]
     cases hexL (s.data.toList.take j) with
     | nil => exact ⟨_, _, rfl⟩
     | cons x r => exact ⟨x, _, rfl⟩
    have hlen : (x :: r).length ≤ 2 * i := by
     rw [← e]
     have : ∀ l : List UInt8, (hexL l).length = 2 * l.length := by
      intro l
      induction l with
      | nil => rfl
      | cons a l ih => show (hexC a ++ hexL l).length = _; rw [List.length_append, ih, hexC_def]; simp; omega
     rw [this]
     simp
     omega
    unfold L31
    simp (maxSteps:=9^9) only [cntA_I, e, bS_cons, C63, C34, go_sem, Int.reduceLT, Int.reduceLE, Int.reduceEq, Int.reduceNe, Int.reduceAdd, Int.reduceSub, Int.reduceMul, Int.reduceToNat, Int.reduceNeg, Nat.reduceEqDiff, Nat.reduceLeDiff, Nat.reduceSub, Nat.reduceMul, Nat.reduceLT, Nat.reduceBEq, Nat.reduceAdd]
    intro c hc
    refine swd hc (fun h0 => ?_) (fun h0 => ?_)
    ·refine nd_intro h0 ?_
     rintro m rfl _ _ m1 h1
     have e0 : s.data.toList.getD i 0 = s.data.toList[i]'(by omega) := getD_eq (by omega)
     obtain ⟨k1, k2, k3⟩ := hex_two h1 rfl rfl rfl
     refine nd_intro k1 ?_
     rintro m2 h2
     simp only [List.length_cons] at hlen
     refine ⟨by omega, ?_⟩
     refine nd_intro h0 ?_
     rintro _ rfl _ _ m3 h3
     rw [h3]
     refine nd_intro k2 ?_
     rintro m4 h4
     refine ⟨by simp only [List.length_append, List.length_cons, List.length_nil]; omega, ?_⟩
     rintro _ _ m5 h5
     rw [w64 (by omega)] at h5
     refine cntA_next h0 ?_
     rw [h2, h4, h5]
     have e5 : hexL (s.data.toList.take (i + 1)) = (x :: r) ++ hexC (s.data.toList.getD i 0) := by rw [hexL_take (by omega), e0, e]
     rw [e5, ← k3]
     simp only [List.append_assoc, List.cons_append, List.nil_append, bS_cons]
     rfl
    ·have e6 : s.data.toList.take i = s.data.toList := List.take_of_length_le (by omega)
     rw [e6] at e
     unfold hexB at h
     rw [e] at h
     simp only [List.length_cons] at hlen
     exact ⟨⟨by simp, by omega⟩, h⟩
 ·exact h.elim
def C35 : Contract := fun args hp K => match args, hp with
 | [.str s], [] => s.size ≤ 100000 ∧ K (.str (hexB s)) []
 | _, _ => False
def L35 (s : ByteArray) : LoopAnn := cntA (fun i => ⟨[(0, .str s), (3, .own 0), (4, .int .i64 i)], [.row true 1 .byte (hexL (s.data.toList.take i))]⟩) s.size
theorem hexL_len (l : List UInt8) : (hexL l).length = 2 * l.length := by
 induction l with
 | nil => rfl
 | cons a l ih => show (hexC a ++ hexL l).length = _; rw [List.length_append, ih, hexC_def]; simp; omega
theorem s35 : Sound Tryd.prog 35 C35 := by
 refine sound_of_okF ok35 .nil ?_
 intro args hp K h
 unfold C35 at h
 split at h
 ·rename_i s
  obtain ⟨hs, h⟩ := h
  have hmx := maxLen_val
  have hl : s.data.toList.length = s.size := Array.length_toList
  refine ⟨by simp, [(1, L35 s)], ?_⟩
  simp (maxSteps:=9^9) only [a35, r35, go_sem, Int.reduceLT, Int.reduceLE, Int.reduceEq, Int.reduceNe, Int.reduceAdd, Int.reduceSub, Int.reduceMul, Int.reduceToNat, Int.reduceNeg, Nat.reduceEqDiff, Nat.reduceLeDiff, Nat.reduceSub, Nat.reduceMul, Nat.reduceLT, Nat.reduceBEq, Nat.reduceAdd]
  refine loop_intro (A := L35 s) (0 : Nat) ?_ (Nat.zero_le _) ?_
  ·simp (maxSteps:=9^9) only [go_sem, Int.reduceLT, Int.reduceLE, Int.reduceEq, Int.reduceNe, Int.reduceAdd, Int.reduceSub, Int.reduceMul, Int.reduceToNat, Int.reduceNeg, Nat.reduceEqDiff, Nat.reduceLeDiff, Nat.reduceSub, Nat.reduceMul, Nat.reduceLT, Nat.reduceBEq, Nat.reduceAdd]
   rfl
  ·intro (i : Nat) (hi : i ≤ s.size)
   unfold L35
   simp (maxSteps:=9^9) only [cntA_I, go_sem, Int.reduceLT, Int.reduceLE, Int.reduceEq, Int.reduceNe, Int.reduceAdd, Int.reduceSub, Int.reduceMul, Int.reduceToNat, Int.reduceNeg, Nat.reduceEqDiff, Nat.reduceLeDiff, Nat.reduceSub, Nat.reduceMul, Nat.reduceLT, Nat.reduceBEq, Nat.reduceAdd]
   rintro _ _ rfl c hc
   refine swd hc (fun h0 => ?_) (fun h0 => ?_)
   ·have h0 : i < s.size := by omega
    refine nd_intro h0 ?_
    rintro m rfl _ _ m1 h1
    have e0 : s.data.toList.getD i 0 = s.data.toList[i]'(by omega) := getD_eq (by omega)
    obtain ⟨k1, k2, k3⟩ := hex_two h1 rfl rfl rfl
    have hlen := hexL_len (s.data.toList.take i)
    rw [List.length_take] at hlen
    refine nd_intro k1 ?_
    rintro m2 h2
    refine nd_intro h0 ?_
    rintro _ rfl _ _ m3 h3
    rw [h3]
    refine nd_intro k2 ?_
    rintro m4 h4
    refine ⟨fun _ => by omega, ?_⟩
    rintro _ _ _ m5 h5
    rw [w64 (by omega)] at h5
    refine cntA_next h0 ?_
    rw [h2, h4, h5]
    have e5 : hexL (s.data.toList.take (i + 1)) = hexL (s.data.toList.take i) ++ hexC (s.data.toList.getD i 0) := by rw [hexL_take (by omega), e0]
    rw [e5, ← k3]
    rfl
   ·rintro u rfl
    have e6 : s.data.toList.take i = s.data.toList := List.take_of_length_le (by omega)
    rw [e6]
    exact h
 ·exact h.elim
def digI (c : UInt8) : Int := match digV c with | some x => (x : Int) | none => -1
def C76 : Contract := fun args hp K => match args, hp with
 | [.int .u8 c], [] => (0 ≤ c ∧ c < 256) ∧ K (.int .i64 (digI (UInt8.ofNat c.toNat))) []
 | _, _ => False
theorem s76 : Sound Tryd.prog 76 C76 := by
 refine sound_of_okF ok76 .nil ?_
 intro args hp K h
 unfold C76 at h
 split at h
 ·rename_i c
  obtain ⟨hc, h⟩ := h
  refine ⟨by simp, [], ?_⟩
  simp (maxSteps:=9^9) only [a76, r76, go_sem, Int.reduceLT, Int.reduceLE, Int.reduceEq, Int.reduceNe, Int.reduceAdd, Int.reduceSub, Int.reduceMul, Int.reduceToNat, Int.reduceNeg, Nat.reduceEqDiff, Nat.reduceLeDiff, Nat.reduceSub, Nat.reduceMul, Nat.reduceLT, Nat.reduceBEq, Nat.reduceAdd]
  have key : ∀ n : Nat, n < 256 → digI (UInt8.ofNat n) = if 48 ≤ n ∧ n ≤ 57 then (n : Int) - 48 else if 97 ≤ n ∧ n ≤ 102 then (n : Int) - 87 else -1 := by decide +kernel
  have hk := key c.toNat (by omega)
  rw [Int.toNat_of_nonneg hc.1] at hk
  have b1 : (48 ≤ c.toNat ∧ c.toNat ≤ 57) ↔ (48 ≤ c ∧ c ≤ 57) := by omega
  have b2 : (97 ≤ c.toNat ∧ c.toNat ≤ 102) ↔ (97 ≤ c ∧ c ≤ 102) := by omega
  simp only [b1, b2] at hk
  rw [hk] at h
  clear hk key
  intro c1 e1
  refine swd e1 (fun a => ?_) (fun a => ?_)
  ·intro c2 e2
   refine swd e2 (fun b => ?_) (fun b => ?_)
   ·rintro _ _ m hm _ m1 hm1
    rw [wu8 (by omega)] at hm
    rw [w64 (by omega)] at hm1
    rw [if_pos ⟨a, b⟩] at h
    rw [hm1, hm]
    exact h
   ·rw [if_neg (by omega)] at h
    intro c3 e3
    refine swd e3 (fun a2 => ?_) (fun a2 => ?_)
    ·intro c4 e4
     refine swd e4 (fun a3 => ?_) (fun a3 => ?_)
     ·rintro _ _ m hm _ m1 hm1 _ _ m2 hm2
      rw [wu8 (by omega)] at hm
      rw [w64 (by omega)] at hm1
      rw [w64 (by omega)] at hm2
      rw [if_pos ⟨a2, a3⟩] at h
      have e : m2 = c - 87 := by omega
      rw [e]
      exact h
     ·rw [if_neg (by omega)] at h
      exact h
    ·rw [if_neg (by omega)] at h
     exact h
  ·rw [if_neg (by omega)] at h
   intro c3 e3
   refine swd e3 (fun a2 => ?_) (fun a2 => ?_)
   ·omega
   ·rw [if_neg (by omega)] at h
    exact h
 ·exact h.elim
def unhexF (s : ByteArray) : Option (List UInt8) := unhexL s.data.toList
theorem unhexL_two : ∀ (l : List UInt8) (i : Nat), 2 * i + 1 < l.length → unhexL (l.drop (2 * i)) = match digV (l.getD (2 * i) 0), digV (l.getD (2 * i + 1) 0) with
  | some x, some y => (unhexL (l.drop (2 * (i + 1)))).map (UInt8.ofNat (16 * x + y) :: ·)
  | _, _ => none := by
 intro l i h
 have e1 : l.drop (2 * i) = l.getD (2 * i) 0 :: l.getD (2 * i + 1) 0 :: l.drop (2 * (i + 1)) := by
  rw [List.drop_eq_getElem_cons (by omega), List.drop_eq_getElem_cons (by omega), getD_eq (by omega), getD_eq (by omega)]
  rfl
 rw [e1]
 rfl
theorem unhexL_len : ∀ (l r : List UInt8), unhexL l = some r → l.length = 2 * r.length
 | [], r, h => by cases h; rfl
 | [_], r, h => by cases h
 | a :: b :: t, r, h => by
  simp only [unhexL] at h
  split at h
  ·cases ht : unhexL t with
   | none => rw [ht] at h; cases h
   | some r' =>
    rw [ht] at h
    cases h
    have := unhexL_len t r' ht
    simp only [List.length_cons, this]
    omega
  ·cases h
theorem idx_hex (u : UInt8) : idxB ⟨#[48, 49, 50, 51, 52, 53, 54, 55, 56, 57, 97, 98, 99, 100, 101, 102]⟩ (u.toNat : Int) = digI u := by
 unfold idxB digI
 have e : ((u.toNat : Int)).toNat.toUInt8 = u := by simp
 rw [e]
 exact digV_idx u
theorem digI_cases (c : UInt8) : (digV c = none ∧ digI c = -1) ∨ ∃ x, digV c = some x ∧ digI c = (x : Int) ∧ x < 16 := by
 unfold digI
 cases h : digV c with
 | none => exact .inl ⟨rfl, rfl⟩
 | some x => exact .inr ⟨x, rfl, rfl, digV_lt h⟩
theorem digI_in (c : UInt8) : inR .i64 (digI c) := by
 unfold inR
 rw [i64_min, i64_max]
 rcases digI_cases c with ⟨_, h⟩ | ⟨x, _, h, hx⟩ <;> rw [h] <;> omega
theorem digI_neg {c : UInt8} (h : digI c < 0) : digV c = none := by
 rcases digI_cases c with ⟨h1, _⟩ | ⟨x, _, h2, hx⟩
 ·exact h1
 ·omega
theorem digI_pos {c : UInt8} (h : ¬ digI c < 0) : ∃ x, digV c = some x := by
 rcases digI_cases c with ⟨_, h1⟩ | ⟨x, h1, _, _⟩
 ·omega
 ·exact ⟨x, h1⟩
theorem or16 {x y : Nat} (hx : x < 16) (hy : y < 16) : bitsI .or .i64 ((16 * x : Nat) : Int) (y : Int) = ((16 * x + y : Nat) : Int) := by
 have : ∀ x : Nat, x < 16 → ∀ y : Nat, y < 16 → bitsI .or .i64 ((16 * x : Nat) : Int) (y : Int) = ((16 * x + y : Nat) : Int) := by decide +kernel
 exact this x hx y hy
def C26 : Contract := fun args hp K => match args, hp with
 | [.str s], [] => s.size ≤ 100000 ∧ (unhexF s = none → K (.tup [.str ByteArray.empty, .bool false]) []) ∧ (∀ l, unhexF s = some l → K (.tup [.str (bsOf l), .bool (keyOk (bsOf l))]) [])
 | _, _ => False
structure U26 where
 i : Nat
 l : List UInt8
def R26 (s : ByteArray) (g : U26) : Prop := 2 * g.i ≤ s.size ∧ g.l.length = g.i ∧ unhexF s = (unhexL (s.data.toList.drop (2 * g.i))).map (g.l ++ ·)
def L26 (s : ByteArray) : LoopAnn := { G := U26, I := fun g => ⟨[(0, .str s), (4, .pty 0 71), (5, .int .i64 (2 * g.i : Nat))], bS g.l⟩, R := fun _ g => R26 s g, μ := fun g => s.size - g.i }
theorem L26_I {s : ByteArray} (g : U26) : (L26 s).I g = ⟨[(0, .str s), (4, .pty 0 71), (5, .int .i64 (2 * g.i : Nat))], bS g.l⟩ := rfl
theorem s26 : Sound Tryd.prog 26 C26 := by
  refine sound_of_okF ok26 (.cons s62 ⟨_, Tryd.func62, rfl, by decide⟩ (.cons s63 (callable_of_okF ok63) (.cons s34 ⟨_, Tryd.func34, rfl, by decide⟩ (.cons s37 (callable_of_okF ok37) .nil)))) ?_
  intro args hp K h
  unfold C26 at h
  split at h
  · rename_i s
    obtain ⟨hs, hn, hk⟩ := h
    have hmx := maxLen_val
    have hl : s.data.toList.length = s.size := Array.length_toList
    refine ⟨by simp, [(1, L26 s)], ?_⟩
    simp (maxSteps:=9^9) only [a26, r26, go_sem, Int.reduceLT, Int.reduceLE, Int.reduceEq, Int.reduceNe, Int.reduceAdd, Int.reduceSub, Int.reduceMul, Int.reduceToNat, Int.reduceNeg, Nat.reduceEqDiff, Nat.reduceLeDiff, Nat.reduceSub, Nat.reduceMul, Nat.reduceLT, Nat.reduceBEq, Nat.reduceAdd]
    rintro _ _ rfl _ _ m1 hm1 c hc
    rw [Int.tmod_eq_emod_of_nonneg (by omega)] at hm1
    refine swn hc (fun h0 => ?_) (fun h0 => ?_)
    · refine hn ?_
      cases hu : unhexF s with
      | none => rfl
      | some r =>
        have := unhexL_len _ _ hu
        omega
    · refine loop_intro (A := L26 s) (⟨0, []⟩ : U26) ?_ ⟨by simp, rfl, by simp [unhexF]⟩ ?_
      · simp (maxSteps:=9^9) only [go_sem, Int.reduceLT, Int.reduceLE, Int.reduceEq, Int.reduceNe, Int.reduceAdd, Int.reduceSub, Int.reduceMul, Int.reduceToNat, Int.reduceNeg, Nat.reduceEqDiff, Nat.reduceLeDiff, Nat.reduceSub, Nat.reduceMul, Nat.reduceLT, Nat.reduceBEq, Nat.reduceAdd]
        rfl
      · rintro (⟨i, l⟩ : U26) (⟨g1, g2, g3⟩ : R26 s ⟨i, l⟩)
        simp only at g1 g2 g3
        cases l with
        | nil =>
          simp (maxSteps:=9^9) only [L26_I, bS_nil, C62, C63, C34, C37, go_sem, Int.reduceLT, Int.reduceLE, Int.reduceEq, Int.reduceNe, Int.reduceAdd, Int.reduceSub, Int.reduceMul, Int.reduceToNat, Int.reduceNeg, Nat.reduceEqDiff, Nat.reduceLeDiff, Nat.reduceSub, Nat.reduceMul, Nat.reduceLT, Nat.reduceBEq, Nat.reduceAdd]
          rintro _ _ rfl c2 hc2
          refine swd hc2 (fun hlt => ?_) (fun hlt => ?_)
          · refine nd_intro (by omega) ?_
            rintro m rfl _ _ n1 hn1
            rw [w64 (by omega)] at hn1
            refine nd_intro (by omega) ?_
            rintro m2 hm2
            have e1 : n1.toNat = 2 * i + 1 := by omega
            rw [e1] at hm2 ⊢
            subst hm2
            rw [idx_hex, idx_hex]
            generalize ea : s.data.toList.getD (2 * i) 0 = a
            generalize eb : s.data.toList.getD (2 * i + 1) 0 = b
            have hu := unhexL_two s.data.toList i (by omega)
            rw [ea, eb] at hu
            rw [hu] at g3
            refine ⟨digI_in a, ⟨fun _ _ m hm => by rw [hm, w64 (by omega), hn1], nd_intro (by omega) (fun m hm => by rw [hm])⟩, digI_in b, ?_⟩
            intro c3 hc3
            refine swd hc3 (fun hx => hn ?_) (fun hx => ?_)
            · rw [g3]
              have : digV a = none := digI_neg hx
              rw [this]
              rfl
            · intro c4 hc4
              obtain ⟨x1, ex⟩ := digI_pos hx
              refine swd hc4 (fun hy => hn ?_) (fun hy => ?_)
              · rw [g3]
                have : digV b = none := digI_neg hy
                rw [this, ex]
                rfl
              · obtain ⟨y1, ey⟩ := digI_pos hy
                have lx := digV_lt ex
                have ly := digV_lt ey
                have dx : digI a = (x1 : Int) := by unfold digI; rw [ex]
                have dy : digI b = (y1 : Int) := by unfold digI; rw [ey]
                rw [dx, dy]
                rintro _ _ n3 hn3 _ _ n4 hn4
                have e16 : (x1 : Int) * 2 ^ min 4 64 = ((16 * x1 : Nat) : Int) := by
                  show (x1 : Int) * 16 = _
                  omega
                rw [e16, w64 (by omega)] at hn3
                rw [hn3, or16 lx ly] at hn4
                rw [ex, ey] at g3
                rintro _ n5 hn5 _ _ n6 hn6
                rw [w64 (by omega)] at hn6
                rw [hn4, wu8 (by omega)] at hn5
                rw [hn5, hn6]
                refine lpE_intro (A := L26 s) (⟨i + 1, ([] : List UInt8) ++ [UInt8.ofNat (16 * x1 + y1)]⟩ : U26) ?_ ⟨by show 2 * (i + 1) ≤ s.size; omega, by simp [← g2], ?_⟩ (by show s.size - (i + 1) < s.size - i; omega)
                · rw [L26_I]
                  have e7 : ((16 * x1 + y1 : Nat) : Int).toNat = 16 * x1 + y1 := Int.toNat_natCast _
                  rw [e7]
                  have e8 : ((2 * i : Nat) : Int) + 2 = ((2 * (i + 1) : Nat) : Int) := by omega
                  rw [e8]
                  rfl
                · rw [g3]
                  simp only [Option.map_map]
                  apply congrArg (fun f => Option.map f _)
                  funext z
                  simp
          · have e9 : s.data.toList.drop (2 * i) = [] := List.drop_of_length_le (by omega)
            rw [e9] at g3
            have hf := hk _ g3
            exact hf
        | cons x r =>
          simp (maxSteps:=9^9) only [L26_I, bS_cons, C62, C63, C34, C37, go_sem, Int.reduceLT, Int.reduceLE, Int.reduceEq, Int.reduceNe, Int.reduceAdd, Int.reduceSub, Int.reduceMul, Int.reduceToNat, Int.reduceNeg, Nat.reduceEqDiff, Nat.reduceLeDiff, Nat.reduceSub, Nat.reduceMul, Nat.reduceLT, Nat.reduceBEq, Nat.reduceAdd]
          rintro _ _ rfl c2 hc2
          refine swd hc2 (fun hlt => ?_) (fun hlt => ?_)
          · refine nd_intro (by omega) ?_
            rintro m rfl _ _ n1 hn1
            rw [w64 (by omega)] at hn1
            refine nd_intro (by omega) ?_
            rintro m2 hm2
            have e1 : n1.toNat = 2 * i + 1 := by omega
            rw [e1] at hm2 ⊢
            subst hm2
            rw [idx_hex, idx_hex]
            generalize ea : s.data.toList.getD (2 * i) 0 = a
            generalize eb : s.data.toList.getD (2 * i + 1) 0 = b
            have hu := unhexL_two s.data.toList i (by omega)
            rw [ea, eb] at hu
            rw [hu] at g3
            refine ⟨digI_in a, ⟨fun _ _ m hm => by rw [hm, w64 (by omega), hn1], nd_intro (by omega) (fun m hm => by rw [hm])⟩, digI_in b, ?_⟩
            intro c3 hc3
            refine swd hc3 (fun hx => hn ?_) (fun hx => ?_)
            · rw [g3]
              have : digV a = none := digI_neg hx
              rw [this]
              rfl
            · intro c4 hc4
              obtain ⟨x1, ex⟩ := digI_pos hx
              refine swd hc4 (fun hy => hn ?_) (fun hy => ?_)
              · rw [g3]
                have : digV b = none := digI_neg hy
                rw [this, ex]
                rfl
              · obtain ⟨y1, ey⟩ := digI_pos hy
                have lx := digV_lt ex
                have ly := digV_lt ey
                have dx : digI a = (x1 : Int) := by unfold digI; rw [ex]
                have dy : digI b = (y1 : Int) := by unfold digI; rw [ey]
                rw [dx, dy]
                rintro _ _ n3 hn3 _ _ n4 hn4
                have e16 : (x1 : Int) * 2 ^ min 4 64 = ((16 * x1 : Nat) : Int) := by
                  show (x1 : Int) * 16 = _
                  omega
                rw [e16, w64 (by omega)] at hn3
                rw [hn3, or16 lx ly] at hn4
                rw [ex, ey] at g3
                have hxl : (x :: r).length ≤ 100000 := by omega
                simp only [List.length_cons] at hxl
                rintro _ n5 hn5
                refine ⟨by omega, ?_⟩
                rintro _ _ n6 hn6
                rw [w64 (by omega)] at hn6
                rw [hn4, wu8 (by omega)] at hn5
                rw [hn5, hn6]
                refine lpE_intro (A := L26 s) (⟨i + 1, (x :: r) ++ [UInt8.ofNat (16 * x1 + y1)]⟩ : U26) ?_ ⟨by show 2 * (i + 1) ≤ s.size; omega, by simp [← g2], ?_⟩ (by show s.size - (i + 1) < s.size - i; omega)
                · rw [L26_I]
                  have e7 : ((16 * x1 + y1 : Nat) : Int).toNat = 16 * x1 + y1 := Int.toNat_natCast _
                  rw [e7]
                  have e8 : ((2 * i : Nat) : Int) + 2 = ((2 * (i + 1) : Nat) : Int) := by omega
                  rw [e8]
                  rfl
                · rw [g3]
                  simp only [Option.map_map]
                  apply congrArg (fun f => Option.map f _)
                  funext z
                  simp
          · have e9 : s.data.toList.drop (2 * i) = [] := List.drop_of_length_le (by omega)
            rw [e9] at g3
            have hf := hk _ g3
            simp only [List.append_nil] at hf
            have hxl : (x :: r).length ≤ 100000 := by omega
            simp only [List.length_cons] at hxl
            exact ⟨⟨by simp, by omega⟩, ⟨by simp, by omega⟩, hf⟩
  · exact h.elim
end Go.V
namespace Go.V
open Go.Proofs
set_option maxRecDepth 100000
set_option maxHeartbeats 4000000
set_option linter.unusedSimpArgs false
set_option linter.unnecessarySimpa false
set_option linter.unusedVariables false
def C65 : Contract := fun args hp K => match args, hp with
 | [.str s], [] => s.size ≤ 100000 ∧ (unhexF s = none → ∀ t : ByteArray, t.size ≤ 100000 → K (.tup [.str t, .bool false]) []) ∧ (∀ l, unhexF s = some l → K (.tup [.str (bsOf l), .bool (keyOk (bsOf l))]) [])
 | _, _ => False
def R65 (s : ByteArray) (g : U26) : Prop := 2 * g.i ≤ s.size ∧ g.l.length = g.i ∧ unhexF s = (unhexL (s.data.toList.drop (2 * g.i))).map (g.l ++ ·)
def L65 (s : ByteArray) : LoopAnn := { G := U26, I := fun g => ⟨[(0, .str s), (4, .own 0), (5, .int .i64 (2 * g.i : Nat))], [.row true 1 .byte g.l]⟩, R := fun _ g => R65 s g, μ := fun g => s.size - g.i }
theorem L65_I {s : ByteArray} (g : U26) : (L65 s).I g = ⟨[(0, .str s), (4, .own 0), (5, .int .i64 (2 * g.i : Nat))], [.row true 1 .byte g.l]⟩ := rfl
attribute [local irreducible] rc
theorem s65 : Sound Tryd.prog 65 C65 := by
  refine sound_of_okF ok65 (.cons s76 (callable_of_okF ok76) (.cons s39 (callable_of_okF ok39) .nil)) ?_
  intro args hp K h
  unfold C65 at h
  split at h
  · rename_i s
    obtain ⟨hs, hn, hk⟩ := h
    have hmx := maxLen_val
    have hl : s.data.toList.length = s.size := Array.length_toList
    refine ⟨by simp, [(1, L65 s)], ?_⟩
    simp (maxSteps:=9^9) only [a65, r65, go_sem, Int.reduceLT, Int.reduceLE, Int.reduceEq, Int.reduceNe, Int.reduceAdd, Int.reduceSub, Int.reduceMul, Int.reduceToNat, Int.reduceNeg, Nat.reduceEqDiff, Nat.reduceLeDiff, Nat.reduceSub, Nat.reduceMul, Nat.reduceLT, Nat.reduceBEq, Nat.reduceAdd]
    refine loop_intro (A := L65 s) (⟨0, []⟩ : U26) ?_ ⟨by simp, rfl, by simp [unhexF]⟩ ?_
    · simp (maxSteps:=9^9) only [go_sem, Int.reduceLT, Int.reduceLE, Int.reduceEq, Int.reduceNe, Int.reduceAdd, Int.reduceSub, Int.reduceMul, Int.reduceToNat, Int.reduceNeg, Nat.reduceEqDiff, Nat.reduceLeDiff, Nat.reduceSub, Nat.reduceMul, Nat.reduceLT, Nat.reduceBEq, Nat.reduceAdd]
      rfl
    · rintro (⟨i, l⟩ : U26) (⟨g1, g2, g3⟩ : R65 s ⟨i, l⟩)
      simp only at g1 g2 g3
      simp (maxSteps:=9^9) only [L65_I, C76, C39, go_sem, Int.reduceLT, Int.reduceLE, Int.reduceEq, Int.reduceNe, Int.reduceAdd, Int.reduceSub, Int.reduceMul, Int.reduceToNat, Int.reduceNeg, Nat.reduceEqDiff, Nat.reduceLeDiff, Nat.reduceSub, Nat.reduceMul, Nat.reduceLT, Nat.reduceBEq, Nat.reduceAdd]
      rintro _ _ n0 hn0 _ _ rfl c hc
      rw [w64 (by omega)] at hn0
      refine swd hc (fun hlt => ?_) (fun hlt => ?_)
      · refine nd_intro (by omega) ?_
        rintro m hm _ _ n1 hn1
        rw [w64 (by omega)] at hn1
        refine nd_intro (by omega) ?_
        rintro m2 hm2
        have e1 : n1.toNat = 2 * i + 1 := by omega
        rw [e1] at hm2 ⊢
        generalize ea : s.data.toList.getD (2 * i) 0 = a at hm
        generalize eb : s.data.toList.getD (2 * i + 1) 0 = b at hm2 ⊢
        have hu := unhexL_two s.data.toList i (by omega)
        rw [ea, eb] at hu
        rw [hu] at g3
        have la := UInt8.toNat_lt a
        have lb := UInt8.toNat_lt b
        have ua : UInt8.ofNat m.toNat = a := by rw [hm]; exact u8_back a
        have ub : UInt8.ofNat m2.toNat = b := by rw [hm2]; exact u8_back b
        rw [ua, ub]
        refine ⟨by omega, ⟨fun _ _ m hm => by rw [hm, w64 (by omega), hn1], nd_intro (by omega) (fun m hm => by rw [hm, hm2])⟩, by omega, ?_⟩
        intro c3 hc3
        refine swd hc3 (fun hx => hn ?_ _ (by decide)) (fun hx => ?_)
        · rw [g3]
          have : digV a = none := digI_neg hx
          rw [this]
          rfl
        · intro c4 hc4
          obtain ⟨x1, ex⟩ := digI_pos hx
          refine swd hc4 (fun hy => hn ?_ _ (by decide)) (fun hy => ?_)
          · rw [g3]
            have : digV b = none := digI_neg hy
            rw [this, ex]
            rfl
          · obtain ⟨y1, ey⟩ := digI_pos hy
            have lx := digV_lt ex
            have ly := digV_lt ey
            have dx : digI a = (x1 : Int) := by unfold digI; rw [ex]
            have dy : digI b = (y1 : Int) := by unfold digI; rw [ey]
            rw [dx, dy]
            rintro _ _ n3 hn3 _ _ n4 hn4 _ n5 hn5
            rw [w64 (by omega)] at hn3
            rw [w64 (by omega)] at hn4
            rw [wu8 (by omega)] at hn5
            rw [ex, ey] at g3
            refine ⟨fun _ => by omega, ?_⟩
            rintro _ _ _ n6 hn6
            rw [w64 (by omega)] at hn6
            have e7 : n5.toNat = 16 * x1 + y1 := by omega
            rw [hn6, e7]
            refine lpE_intro (A := L65 s) (⟨i + 1, l ++ [UInt8.ofNat (16 * x1 + y1)]⟩ : U26) ?_ ⟨by show 2 * (i + 1) ≤ s.size; omega, by simp [← g2], ?_⟩ (by show s.size - (i + 1) < s.size - i; omega)
            · rw [L65_I]
              have e8 : ((2 * i : Nat) : Int) + 2 = ((2 * (i + 1) : Nat) : Int) := by omega
              rw [e8]
              rfl
            · rw [g3]
              simp only [Option.map_map]
              apply congrArg (fun f => Option.map f _)
              funext z
              simp
      · rintro u rfl _ _ rfl _ _ n1 hn1 c3 hc3
        rw [Int.tmod_eq_emod_of_nonneg (by omega)] at hn1
        have hll : (l.toArray).size ≤ 100000 := by simp; omega
        refine swd hc3 (fun hz => ?_) (fun hz => ?_)
        · rintro u rfl
          refine ⟨fun u hu => by rw [hu], ?_⟩
          have e9 : s.data.toList.drop (2 * i) = [] := List.drop_of_length_le (by omega)
          rw [e9] at g3
          have hf := hk _ g3
          simp only [List.append_nil] at hf
          exact hf
        · refine hn ?_ _ hll
          cases hu : unhexF s with
          | none => rfl
          | some r =>
            have := unhexL_len _ _ hu
            omega
  · exact h.elim
theorem head_48 {l : List UInt8} (h : 0 < l.length) : l.head? = some 48 ↔ ((l.getD 0 0).toNat : Int) = 48 := by
 cases l with
 | nil => simp at h
 | cons c r =>
  simp only [List.head?_cons, Option.some.injEq, List.getD_cons_zero]
  constructor
  ·rintro rfl; rfl
  ·intro h
   have : c.toNat = (48 : UInt8).toNat := by simp; omega
   exact UInt8.toNat.inj this
def C77 : Contract := fun args hp K => match args, hp with
 | [.str s], [] => s.size ≤ 100000 ∧ (natF s.data.toList = none → K (.tup [.int .u64 0, .bool false]) []) ∧ (∀ n : Nat, natF s.data.toList = some n → K (.tup [.int .u64 n, .bool true]) [])
 | _, _ => False
structure U77 where
 i : Nat
 n : Nat
def L77 (s : ByteArray) : LoopAnn := { G := U77, I := fun g => ⟨[(0, .str s), (4, .int .u64 g.n), (5, .int .i64 g.i)], []⟩, R := fun _ g => (g.i ≤ s.size ∧ g.n ≤ 18446744073709551615) ∧ natGo s.data.toList 0 = natGo (s.data.toList.drop g.i) g.n, μ := fun g => s.size - g.i }
theorem L77_I {s : ByteArray} (g : U77) : (L77 s).I g = ⟨[(0, .str s), (4, .int .u64 g.n), (5, .int .i64 g.i)], []⟩ := rfl
theorem s77 : Sound Tryd.prog 77 C77 := by
  refine sound_of_okF ok77 .nil ?_
  intro args hp K h
  unfold C77 at h
  split at h
  · rename_i s
    obtain ⟨hs, hn, hk⟩ := h
    have hmx := maxLen_val
    have hl : s.data.toList.length = s.size := Array.length_toList
    refine ⟨by simp, [(1, L77 s)], ?_⟩
    simp (maxSteps:=9^9) only [a77, r77, go_sem, Int.reduceLT, Int.reduceLE, Int.reduceEq, Int.reduceNe, Int.reduceAdd, Int.reduceSub, Int.reduceMul, Int.reduceToNat, Int.reduceNeg, Nat.reduceEqDiff, Nat.reduceLeDiff, Nat.reduceSub, Nat.reduceMul, Nat.reduceLT, Nat.reduceBEq, Nat.reduceAdd]
    rintro _ _ rfl c hc
    refine swd hc (fun h0 => hn ?_) (fun h0 => ?_)
    · unfold natF
      rw [if_pos (.inl (List.length_eq_zero_iff.1 (by omega)))]
    · rintro _ _ rfl c2 hc2
      refine swd hc2 (fun h1 => nd_intro (by omega) ?_) (fun h1 => ?_)
      · intro m hm c3 hc3
        refine swd hc3 (fun h2 => hn ?_) (fun h2 => ?_)
        · unfold natF
          rw [if_pos (.inr ⟨by omega, (head_48 (by omega)).2 (by omega)⟩)]
        · have hN : natF s.data.toList = natGo s.data.toList 0 := by
            unfold natF
            rw [if_neg]
            rintro (h | ⟨_, h⟩)
            · rw [h] at hl; simp at hl; omega
            · have := (head_48 (l := s.data.toList) (by omega)).1 h
              omega
          refine loop_intro (A := L77 s) (⟨0, 0⟩ : U77) ?_ ⟨⟨by simp, by simp⟩, rfl⟩ ?_
          · simp (maxSteps:=9^9) only [go_sem, Int.reduceLT, Int.reduceLE, Int.reduceEq, Int.reduceNe, Int.reduceAdd, Int.reduceSub, Int.reduceMul, Int.reduceToNat, Int.reduceNeg, Nat.reduceEqDiff, Nat.reduceLeDiff, Nat.reduceSub, Nat.reduceMul, Nat.reduceLT, Nat.reduceBEq, Nat.reduceAdd]
            rfl
          · rintro (⟨i, n⟩ : U77) (⟨⟨g1, g2⟩, g3⟩ : (i ≤ s.size ∧ n ≤ 18446744073709551615) ∧ natGo s.data.toList 0 = natGo (s.data.toList.drop i) n)
            simp (maxSteps:=9^9) only [L77_I, go_sem, Int.reduceLT, Int.reduceLE, Int.reduceEq, Int.reduceNe, Int.reduceAdd, Int.reduceSub, Int.reduceMul, Int.reduceToNat, Int.reduceNeg, Nat.reduceEqDiff, Nat.reduceLeDiff, Nat.reduceSub, Nat.reduceMul, Nat.reduceLT, Nat.reduceBEq, Nat.reduceAdd]
            rintro _ _ rfl c4 hc4
            refine swd hc4 (fun hlt => ?_) (fun hlt => ?_)
            · have hlt' : i < s.size := by omega
              have hd : s.data.toList.drop i = s.data.toList.getD i 0 :: s.data.toList.drop (i + 1) := by
                rw [List.drop_eq_getElem_cons (by omega), getD_eq (by omega)]
              rw [hd] at g3
              generalize s.data.toList.getD i 0 = a at g3 ⊢
              have la := UInt8.toNat_lt a
              simp only [natGo] at g3
              refine nd_intro hlt' ?_
              rintro m6 rfl c5 hc5
              refine swd hc5 (fun h5 => hn ?_) (fun h5 => ?_)
              · rw [hN, g3, if_neg (by omega)]
              · refine nd_intro hlt' ?_
                rintro _ rfl c6 hc6
                refine swd hc6 (fun h6 => hn ?_) (fun h6 => ?_)
                · rw [hN, g3, if_neg (by omega)]
                · rw [if_pos (by omega)] at g3
                  refine nd_intro hlt' ?_
                  rintro _ rfl _ _ m7 hm7 _ m8 hm8 _ _ m9 hm9 _ _ m10 hm10 c7 hc7
                  rw [wu8 (by omega)] at hm7
                  rw [wu64 (by omega)] at hm8
                  rw [wu64 (by omega)] at hm9
                  rw [Int.tdiv_eq_ediv_of_nonneg (by omega), wu64 (by omega)] at hm10
                  refine swd hc7 (fun h7 => hn ?_) (fun h7 => ?_)
                  · rw [hN, g3, if_pos (by omega)]
                  · rw [if_neg (by omega)] at g3
                    rintro _ _ m11 hm11 _ _ m12 hm12 _ _ m13 hm13
                    rw [wu64 (by omega)] at hm11
                    rw [wu64 (by omega)] at hm12
                    rw [w64 (by omega)] at hm13
                    refine lpE_intro (A := L77 s) (⟨i + 1, 10 * n + (a.toNat - 48)⟩ : U77) ?_ ⟨⟨by show i + 1 ≤ s.size; omega, by show 10 * n + (a.toNat - 48) ≤ 18446744073709551615; omega⟩, g3⟩ (by show s.size - (i + 1) < s.size - i; omega)
                    rw [L77_I]
                    have e8 : m12 = ((10 * n + (a.toNat - 48) : Nat) : Int) := by omega
                    have e9 : m13 = ((i + 1 : Nat) : Int) := by omega
                    rw [e8, e9]
                    rfl
            · rw [List.drop_of_length_le (by omega)] at g3
              exact hk n (hN.trans g3)
      · have hN : natF s.data.toList = natGo s.data.toList 0 := by
          unfold natF
          rw [if_neg]
          rintro (h | ⟨h, _⟩)
          · rw [h] at hl; simp at hl; omega
          · omega
        refine loop_intro (A := L77 s) (⟨0, 0⟩ : U77) ?_ ⟨⟨by simp, by simp⟩, rfl⟩ ?_
        · simp (maxSteps:=9^9) only [go_sem, Int.reduceLT, Int.reduceLE, Int.reduceEq, Int.reduceNe, Int.reduceAdd, Int.reduceSub, Int.reduceMul, Int.reduceToNat, Int.reduceNeg, Nat.reduceEqDiff, Nat.reduceLeDiff, Nat.reduceSub, Nat.reduceMul, Nat.reduceLT, Nat.reduceBEq, Nat.reduceAdd]
          rfl
        · rintro (⟨i, n⟩ : U77) (⟨⟨g1, g2⟩, g3⟩ : (i ≤ s.size ∧ n ≤ 18446744073709551615) ∧ natGo s.data.toList 0 = natGo (s.data.toList.drop i) n)
          simp (maxSteps:=9^9) only [L77_I, go_sem, Int.reduceLT, Int.reduceLE, Int.reduceEq, Int.reduceNe, Int.reduceAdd, Int.reduceSub, Int.reduceMul, Int.reduceToNat, Int.reduceNeg, Nat.reduceEqDiff, Nat.reduceLeDiff, Nat.reduceSub, Nat.reduceMul, Nat.reduceLT, Nat.reduceBEq, Nat.reduceAdd]
          rintro _ _ rfl c4 hc4
          refine swd hc4 (fun hlt => ?_) (fun hlt => ?_)
          · have hlt' : i < s.size := by omega
            have hd : s.data.toList.drop i = s.data.toList.getD i 0 :: s.data.toList.drop (i + 1) := by
              rw [List.drop_eq_getElem_cons (by omega), getD_eq (by omega)]
            rw [hd] at g3
            generalize s.data.toList.getD i 0 = a at g3 ⊢
            have la := UInt8.toNat_lt a
            simp only [natGo] at g3
            refine nd_intro hlt' ?_
            rintro m6 rfl c5 hc5
            refine swd hc5 (fun h5 => hn ?_) (fun h5 => ?_)
            · rw [hN, g3, if_neg (by omega)]
            · refine nd_intro hlt' ?_
              rintro _ rfl c6 hc6
              refine swd hc6 (fun h6 => hn ?_) (fun h6 => ?_)
              · rw [hN, g3, if_neg (by omega)]
              · rw [if_pos (by omega)] at g3
                refine nd_intro hlt' ?_
                rintro _ rfl _ _ m7 hm7 _ m8 hm8 _ _ m9 hm9 _ _ m10 hm10 c7 hc7
                rw [wu8 (by omega)] at hm7
                rw [wu64 (by omega)] at hm8
                rw [wu64 (by omega)] at hm9
                rw [Int.tdiv_eq_ediv_of_nonneg (by omega), wu64 (by omega)] at hm10
                refine swd hc7 (fun h7 => hn ?_) (fun h7 => ?_)
                · rw [hN, g3, if_pos (by omega)]
                · rw [if_neg (by omega)] at g3
                  rintro _ _ m11 hm11 _ _ m12 hm12 _ _ m13 hm13
                  rw [wu64 (by omega)] at hm11
                  rw [wu64 (by omega)] at hm12
                  rw [w64 (by omega)] at hm13
                  refine lpE_intro (A := L77 s) (⟨i + 1, 10 * n + (a.toNat - 48)⟩ : U77) ?_ ⟨⟨by show i + 1 ≤ s.size; omega, by show 10 * n + (a.toNat - 48) ≤ 18446744073709551615; omega⟩, g3⟩ (by show s.size - (i + 1) < s.size - i; omega)
                  rw [L77_I]
                  have e8 : m12 = ((10 * n + (a.toNat - 48) : Nat) : Int) := by omega
                  have e9 : m13 = ((i + 1 : Nat) : Int) := by omega
                  rw [e8, e9]
                  rfl
          · rw [List.drop_of_length_le (by omega)] at g3
            exact hk n (hN.trans g3)
  · exact h.elim
theorem use77 {s : ByteArray} {K : SV → List SB → Prop} (hs : s.size ≤ 100000) (h1 : natF s.data.toList = none → K (.tup [.int .u64 0, .bool false]) []) (h2 : ∀ n : Nat, natF s.data.toList = some n → n ≤ 18446744073709551615 → K (.tup [.int .u64 n, .bool true]) []) : C77 [.str s] [] K :=
 ⟨hs, h1, fun n hn => h2 n hn (parse_natF hn).2⟩
theorem head_45 {l : List UInt8} (h : 0 < l.length) : l.head? = some 45 ↔ ((l.getD 0 0).toNat : Int) = 45 := by
 cases l with
 | nil => simp at h
 | cons c r =>
  simp only [List.head?_cons, Option.some.injEq, List.getD_cons_zero]
  constructor
  ·rintro rfl; rfl
  ·intro h
   have : c.toNat = (45 : UInt8).toNat := by simp; omega
   exact UInt8.toNat.inj this
theorem wneg {n : Nat} (h0 : 0 < n) (h1 : n ≤ 9223372036854775808) : IntKind.u64.wrap (0 - (n : Int)) = 18446744073709551616 - (n : Int) := by
 unfold IntKind.wrap
 simp only [IntKind.signed, IntKind.bits]
 simp
 omega
theorem wback {n : Nat} (h0 : 0 < n) (h1 : n ≤ 9223372036854775808) : IntKind.i64.wrap (18446744073709551616 - (n : Int)) = -(n : Int) := by
 unfold IntKind.wrap
 simp only [IntKind.signed, IntKind.bits]
 simp
 omega
def C66 : Contract := fun args hp K => match args, hp with
 | [.str s], [] => s.size ≤ 100000 ∧ (numI s.data.toList = none → K (.tup [.int .i64 0, .bool false]) []) ∧ (∀ n : Int, numI s.data.toList = some n → K (.tup [.int .i64 n, .bool true]) [])
 | _, _ => False
theorem s66 : Sound Tryd.prog 66 C66 := by
 refine sound_of_okF ok66 (.cons s77 (callable_of_okF ok77) .nil) ?_
 intro args hp K h
 unfold C66 at h
 split at h
 ·rename_i s
  obtain ⟨hs, hn, hk⟩ := h
  have hmx := maxLen_val
  have hl : s.data.toList.length = s.size := Array.length_toList
  refine ⟨by simp, [], ?_⟩
  simp (maxSteps:=9^9) only [a66, r66, go_sem, Int.reduceLT, Int.reduceLE, Int.reduceEq, Int.reduceNe, Int.reduceAdd, Int.reduceSub, Int.reduceMul, Int.reduceToNat, Int.reduceNeg, Nat.reduceEqDiff, Nat.reduceLeDiff, Nat.reduceSub, Nat.reduceMul, Nat.reduceLT, Nat.reduceBEq, Nat.reduceAdd]
  rintro _ _ rfl c hc
  refine swd hc (fun h0 => ?_) (fun h0 => ?_)
  ·refine nd_intro (by omega) ?_
   rintro m hm c2 hc2
   by_cases h1 : m = 45
   ·obtain rfl : c2 = true := by rw [hc2]; exact decide_eq_true h1
    have hI : numI s.data.toList = (natF s.data.toList.tail).bind fun n => if n = 0 ∨ 9223372036854775808 < n then none else some (-(n : Int)) := by
     unfold numI
     rw [if_pos ((head_45 (by omega)).2 (by omega))]
    simp (maxSteps:=9^9) only [go_sem, Int.reduceLT, Int.reduceLE, Int.reduceEq, Int.reduceNe, Int.reduceAdd, Int.reduceSub, Int.reduceMul, Int.reduceToNat, Int.reduceNeg, Nat.reduceEqDiff, Nat.reduceLeDiff, Nat.reduceSub, Nat.reduceMul, Nat.reduceLT, Nat.reduceBEq, Nat.reduceAdd]
    refine nd_intro (by omega) ?_
    rintro u hu
    have hu2 : u.data.toList = s.data.toList.tail := by
     rw [hu, Go.Lib.extract_data]
     simp
     rw [List.take_of_length_le (by simp)]
    refine use77 (by have := congrArg List.length hu2; simp only [List.length_tail] at this; have e : u.data.toList.length = u.size := Array.length_toList; omega) (fun hn2 => ?_) (fun n hn2 hle => ?_)
    ·simp (maxSteps:=9^9) only [go_sem, Int.reduceLT, Int.reduceLE, Int.reduceEq, Int.reduceNe, Int.reduceAdd, Int.reduceSub, Int.reduceMul, Int.reduceToNat, Int.reduceNeg, Nat.reduceEqDiff, Nat.reduceLeDiff, Nat.reduceSub, Nat.reduceMul, Nat.reduceLT, Nat.reduceBEq, Nat.reduceAdd]
     refine hn ?_
     rw [hI, ← hu2, hn2]
     rfl
    ·simp (maxSteps:=9^9) only [go_sem, Int.reduceLT, Int.reduceLE, Int.reduceEq, Int.reduceNe, Int.reduceAdd, Int.reduceSub, Int.reduceMul, Int.reduceToNat, Int.reduceNeg, Nat.reduceEqDiff, Nat.reduceLeDiff, Nat.reduceSub, Nat.reduceMul, Nat.reduceLT, Nat.reduceBEq, Nat.reduceAdd]
     rw [hu2] at hn2
     rw [hn2] at hI
     simp only [Option.bind_some] at hI
     intro c3 hc3
     refine swd hc3 (fun h3 => hn ?_) (fun h3 => ?_)
     ·rw [hI, if_pos (.inl (by omega))]
     ·intro c4 hc4
      refine swd hc4 (fun h4 => hn ?_) (fun h4 => ?_)
      ·rw [hI, if_pos (.inr (by omega))]
      ·rintro _ m3 hm3 _ m4 hm4
       rw [wneg (by omega) (by omega)] at hm3
       rw [hm3, wback (by omega) (by omega)] at hm4
       rw [hm4]
       rw [if_neg (by omega)] at hI
       exact hk _ hI
   ·obtain rfl : c2 = false := by rw [hc2]; exact decide_eq_false h1
    simp (maxSteps:=9^9) only [go_sem, Int.reduceLT, Int.reduceLE, Int.reduceEq, Int.reduceNe, Int.reduceAdd, Int.reduceSub, Int.reduceMul, Int.reduceToNat, Int.reduceNeg, Nat.reduceEqDiff, Nat.reduceLeDiff, Nat.reduceSub, Nat.reduceMul, Nat.reduceLT, Nat.reduceBEq, Nat.reduceAdd]
    have hI : numI s.data.toList = (natF s.data.toList).bind fun n => if 9223372036854775807 < n then none else some (n : Int) := by
     unfold numI
     rw [if_neg (fun h => h1 (by have := (head_45 (l := s.data.toList) (by omega)).1 h; omega))]
    refine use77 hs (fun hn2 => ?_) (fun n hn2 hle => ?_)
    ·simp (maxSteps:=9^9) only [go_sem, Int.reduceLT, Int.reduceLE, Int.reduceEq, Int.reduceNe, Int.reduceAdd, Int.reduceSub, Int.reduceMul, Int.reduceToNat, Int.reduceNeg, Nat.reduceEqDiff, Nat.reduceLeDiff, Nat.reduceSub, Nat.reduceMul, Nat.reduceLT, Nat.reduceBEq, Nat.reduceAdd]
     refine hn ?_
     rw [hI, hn2]
     rfl
    ·simp (maxSteps:=9^9) only [go_sem, Int.reduceLT, Int.reduceLE, Int.reduceEq, Int.reduceNe, Int.reduceAdd, Int.reduceSub, Int.reduceMul, Int.reduceToNat, Int.reduceNeg, Nat.reduceEqDiff, Nat.reduceLeDiff, Nat.reduceSub, Nat.reduceMul, Nat.reduceLT, Nat.reduceBEq, Nat.reduceAdd]
     rw [hn2] at hI
     simp only [Option.bind_some] at hI
     intro c4 hc4
     refine swd hc4 (fun h4 => hn ?_) (fun h4 => ?_)
     ·rw [hI, if_pos (by omega)]
     ·rw [if_neg (by omega)] at hI
      intro _ m5 hm5
      rw [w64 (by omega)] at hm5
      rw [hm5]
      exact hk _ hI
  ·have hI : numI s.data.toList = (natF s.data.toList).bind fun n => if 9223372036854775807 < n then none else some (n : Int) := by
    unfold numI
    rw [if_neg (fun h => by rw [List.length_eq_zero_iff.1 (show s.data.toList.length = 0 by omega)] at h; cases h)]
   refine use77 hs (fun hn2 => ?_) (fun n hn2 hle => ?_)
   ·simp (maxSteps:=9^9) only [go_sem, Int.reduceLT, Int.reduceLE, Int.reduceEq, Int.reduceNe, Int.reduceAdd, Int.reduceSub, Int.reduceMul, Int.reduceToNat, Int.reduceNeg, Nat.reduceEqDiff, Nat.reduceLeDiff, Nat.reduceSub, Nat.reduceMul, Nat.reduceLT, Nat.reduceBEq, Nat.reduceAdd]
    refine hn ?_
    rw [hI, hn2]
    rfl
   ·simp (maxSteps:=9^9) only [go_sem, Int.reduceLT, Int.reduceLE, Int.reduceEq, Int.reduceNe, Int.reduceAdd, Int.reduceSub, Int.reduceMul, Int.reduceToNat, Int.reduceNeg, Nat.reduceEqDiff, Nat.reduceLeDiff, Nat.reduceSub, Nat.reduceMul, Nat.reduceLT, Nat.reduceBEq, Nat.reduceAdd]
    rw [hn2] at hI
    simp only [Option.bind_some] at hI
    intro c4 hc4
    refine swd hc4 (fun h4 => hn ?_) (fun h4 => ?_)
    ·rw [hI, if_pos (by omega)]
    ·rw [if_neg (by omega)] at hI
     intro _ m5 hm5
     rw [w64 (by omega)] at hm5
     rw [hm5]
     exact hk _ hI
 ·exact h.elim
end Go.V
namespace Go.V
set_option linter.unusedSimpArgs false
set_option linter.unnecessarySimpa false
set_option linter.unusedVariables false
set_option maxRecDepth 100000
def wordB (j : Nat) : ByteArray := (elt WdT opT j).1
def wordL (j : Nat) : List UInt8 := (wordB j).data.toList
def opFind (w : List UInt8) : Option Nat := (List.range 24).find? (fun j => wordL j == w)
def instrF (l : List UInt8) : Option (Int × Int) :=
 match opFind (l.takeWhile (· != 32)) with
 | none => none
 | some j => if opK j = 0 then (if l.contains 32 then none else some ((j : Int), 0)) else if l.contains 32 then (numI ((l.dropWhile (· != 32)).drop 1)).map (fun n => ((j : Int), n)) else none
theorem word_no : ∀ j, j < 24 → (wordL j).contains 32 = false := by decide +kernel
theorem word_ne : ∀ j, j < 24 → ∀ k, k < 24 → wordL j = wordL k → j = k := by decide +kernel
theorem opFind_some {w : List UInt8} {j : Nat} (h : opFind w = some j) : j < 24 ∧ wordL j = w := by
 unfold opFind at h
 have h1 := List.find?_some h
 have h2 := List.mem_of_find?_eq_some h
 exact ⟨List.mem_range.1 h2, by simpa using h1⟩
theorem opFind_word {j : Nat} (h : j < 24) : opFind (wordL j) = some j := by
 cases hf : opFind (wordL j) with
 | none =>
  unfold opFind at hf
  have := List.find?_eq_none.1 hf j (List.mem_range.2 h)
  simp at this
 | some k =>
  obtain ⟨h1, h2⟩ := opFind_some hf
  rw [word_ne k h1 j h h2]
theorem opFind_none {w : List UInt8} (h : ∀ j, j < 24 → wordL j ≠ w) : opFind w = none := by
 unfold opFind
 rw [List.find?_eq_none]
 intro j hj
 simpa using h j (List.mem_range.1 hj)
def opM (l : List UInt8) (j : Nat) : Bool := if opK j = 0 then decide (l = wordL j) else (wordL j ++ [32]).isPrefixOf l
theorem take_no {w : List UInt8} (h : w.contains 32 = false) (r : List UInt8) : (w ++ 32 :: r).takeWhile (· != 32) = w ∧ (w ++ 32 :: r).dropWhile (· != 32) = 32 :: r := by
 induction w with
 | nil => simp [List.takeWhile_cons, List.dropWhile_cons]
 | cons c w ih =>
  simp only [List.contains_cons, Bool.or_eq_false_iff] at h
  obtain ⟨i1, i2⟩ := ih h.2
  have hc : (c != 32) = true := by
   have := h.1
   simp only [bne_iff_ne, ne_eq]
   intro e
   rw [e] at this
   simp at this
  constructor
  ·rw [List.cons_append, List.takeWhile_cons, if_pos hc, i1]
  ·rw [List.cons_append, List.dropWhile_cons, if_pos hc, i2]
theorem take_all {w : List UInt8} (h : w.contains 32 = false) : w.takeWhile (· != 32) = w := by
 induction w with
 | nil => rfl
 | cons c w ih =>
  simp only [List.contains_cons, Bool.or_eq_false_iff] at h
  have hc : (c != 32) = true := by
   have := h.1
   simp only [bne_iff_ne, ne_eq]
   intro e
   rw [e] at this
   simp at this
  rw [List.takeWhile_cons, if_pos hc, ih h.2]
theorem opM_instr {l : List UInt8} {j : Nat} (hj : j < 24) (h : opM l j = true) : instrF l = if opK j = 0 then some ((j : Int), 0) else (numI (l.drop ((wordL j).length + 1))).map (fun n => ((j : Int), n)) := by
 unfold opM at h
 unfold instrF
 have hw := word_no j hj
 split at h
 ·rename_i hk
  have hl : l = wordL j := of_decide_eq_true h
  rw [hl, take_all hw, opFind_word hj]
  simp only [hk, hw, if_true, Bool.false_eq_true, if_false]
 ·rename_i hk
  obtain ⟨r, hr⟩ := List.isPrefixOf_iff_prefix.1 h
  have hl : l = wordL j ++ 32 :: r := by rw [← hr]; simp
  obtain ⟨t1, t2⟩ := take_no hw r
  rw [hl, t1, t2, opFind_word hj]
  have hc : (wordL j ++ 32 :: r).contains 32 = true := by simp
  simp only [hk, hc, if_true, if_false]
  have e : (wordL j ++ 32 :: r).drop ((wordL j).length + 1) = r := by
   rw [← List.drop_drop]
   simp
  rw [e]
  rfl
theorem split_32 : ∀ {l : List UInt8}, l.contains 32 = true → ∃ r, l = l.takeWhile (· != 32) ++ 32 :: r
 | [], h => by simp at h
 | c :: l, h => by
  by_cases hc : c = 32
  ·subst hc
   exact ⟨l, by simp [List.takeWhile_cons]⟩
  ·have h1 : (c != 32) = true := by simpa using hc
   have h2 : l.contains 32 = true := by
    rw [List.contains_cons, Bool.or_eq_true] at h
    rcases h with h | h
    ·exact absurd (by simpa using h : (32 : UInt8) = c) (fun e => hc e.symm)
    ·exact h
   obtain ⟨r, hr⟩ := split_32 h2
   exact ⟨r, by rw [List.takeWhile_cons, if_pos h1, List.cons_append, ← hr]⟩
theorem opM_none {l : List UInt8} (h : ∀ j, j < 24 → opM l j = false) : instrF l = none := by
 unfold instrF
 cases hf : opFind (l.takeWhile (· != 32)) with
 | none => rfl
 | some j =>
  obtain ⟨h1, h2⟩ := opFind_some hf
  have hm := h j h1
  unfold opM at hm
  simp only
  split
  ·rename_i hk
   rw [if_pos hk] at hm
   split
   ·rfl
   ·rename_i hc
    have hc' : l.contains 32 = false := by simpa using hc
    rw [take_all hc'] at h2
    exact absurd h2.symm (of_decide_eq_false hm)
  ·rename_i hk
   rw [if_neg hk] at hm
   split
   ·rename_i hc
    obtain ⟨r, hr⟩ := split_32 hc
    exfalso
    have : (wordL j ++ [32]).isPrefixOf l = true := by
     rw [List.isPrefixOf_iff_prefix]
     exact ⟨r, by rw [h2, List.append_assoc]; exact hr.symm⟩
    rw [this] at hm
    cases hm
   ·rfl
def nameL : List UInt8 := [110, 97, 109, 101, 32]
def lineF (l : List UInt8) : Option (ByteArray ⊕ (Int × Int)) :=
 if nameL.isPrefixOf l then (unhexL (l.drop 5)).bind fun k => if keyOk (bsOf k) then some (.inl (bsOf k)) else none
 else (instrF l).map .inr
inductive PR where
 | bad (i : Int)
 | fin (ns : List ByteArray) (cs : List EvT.den) (late : Bool)
def parseGo : List (List UInt8) → Int → List ByteArray → List EvT.den → Bool → PR
 | [], _, ns, cs, late => .fin ns cs late
 | l :: r, i, ns, cs, late => match lineF l with
  | none => .bad i
  | some (.inl n) => parseGo r (i + 1) (ns ++ [n]) cs (late || decide (0 < cs.length))
  | some (.inr x) => parseGo r (i + 1) ns (cs ++ [x]) late
end Go.V
namespace Go.V
open Go.Proofs
set_option maxRecDepth 100000
set_option maxHeartbeats 2000000
set_option linter.unusedSimpArgs false
set_option linter.unnecessarySimpa false
set_option linter.unusedVariables false
def nmL (n : ByteArray) : List UInt8 := nameL ++ (hexL n.data.toList ++ [10])
def argL (x : EvT.den) : List UInt8 := if opK x.1 = 0 then [] else 32 :: Lib.itoa x.2
def lnL (x : EvT.den) : List UInt8 := wordL x.1.toNat ++ (argL x ++ [10])
def prN (ns : List ByteArray) : List UInt8 := ns.flatMap nmL
def prC (cs : List EvT.den) : List UInt8 := cs.flatMap lnL
theorem prN_nil : prN [] = [] := rfl
theorem prC_nil : prC [] = [] := rfl
theorem prN_next {ns : List ByteArray} {i : Nat} (h : i < ns.length) : prN (ns.take (i + 1)) = prN (ns.take i) ++ nmL (elt .str ns i) := by
 unfold prN
 rw [← take_elt (t := .str) h, List.flatMap_append, List.flatMap_cons, List.flatMap_nil, List.append_nil]
theorem prC_next {cs : List EvT.den} {i : Nat} (h : i < cs.length) : prC (cs.take (i + 1)) = prC (cs.take i) ++ lnL (elt EvT cs i) := by
 unfold prC
 rw [← take_elt (t := EvT) h, List.flatMap_append, List.flatMap_cons, List.flatMap_nil, List.append_nil]
theorem nDigits_le (k : Nat) : ∀ u : Nat, u < 10 ^ (k + 1) → Lib.nDigits u ≤ k + 1 := by
 induction k with
 | zero => intro u h; rw [Lib.nDigits_small (by simpa using h)]; exact Nat.le_refl _
 | succ k ih =>
  intro u h
  by_cases h10 : u < 10
  ·rw [Lib.nDigits_small h10]; omega
  ·rw [Lib.nDigits_big h10]
   have := ih (u / 10) (by rw [Nat.pow_succ] at h; omega)
   omega
theorem itoa_len {n : Int} (h : inR .i64 n) : (Lib.itoa n).length ≤ 21 := by
 have h1 : -9223372036854775808 ≤ n ∧ n ≤ 9223372036854775807 := h
 unfold Lib.itoa
 split
 ·rw [List.length_cons, Lib.decDigits_length]
  have := nDigits_le 19 n.natAbs (by omega)
  omega
 ·rw [Lib.decDigits_length]
  have := nDigits_le 19 n.toNat (by omega)
  omega
theorem word_len : ∀ j, j < 24 → (wordL j).length ≤ 10 := by decide +kernel
theorem hexL_two (l : List UInt8) : (hexL l).length = 2 * l.length := by
 induction l with
 | nil => rfl
 | cons a l ih => show (hexC a ++ hexL l).length = _; rw [List.length_append, ih]; simp [hexC]; omega
theorem nmL_len {n : ByteArray} (h : keyOk n = true) : (nmL n).length ≤ 86 := by
 simp only [keyOk, Bool.and_eq_true, decide_eq_true_eq] at h
 have : n.data.toList.length = n.size := Array.length_toList
 simp only [nmL, nameL, List.length_append, hexL_two, List.length_cons, List.length_nil]
 omega
theorem argL_len {x : EvT.den} (h : inR .i64 x.2) : (argL x).length ≤ 22 := by
 unfold argL
 split
 ·simp
 ·have := itoa_len h
  simp only [List.length_cons]
  omega
theorem lnL_len {a b : Int} (h : 0 ≤ a ∧ a < 24) (h2 : inR .i64 b) : (lnL (a, b)).length ≤ 40 := by
 have h3 := word_len a.toNat (by omega)
 have h4 := argL_len (x := (a, b)) h2
 simp only [lnL, List.length_append, List.length_cons, List.length_nil]
 omega
theorem flat_len {α : Type} {f : α → List UInt8} {k : Nat} : ∀ {l : List α}, (∀ x ∈ l, (f x).length ≤ k) → (l.flatMap f).length ≤ k * l.length
 | [], _ => by simp
 | x :: l, h => by
  have h1 := h x (List.mem_cons_self ..)
  have h2 := flat_len (l := l) (fun y hy => h y (List.mem_cons_of_mem _ hy))
  rw [List.flatMap_cons, List.length_append, List.length_cons, Nat.mul_succ]
  omega
theorem prN_len {ns : List ByteArray} (h : ns.all keyOk = true) : (prN ns).length ≤ 86 * ns.length := flat_len fun x hx => nmL_len (List.all_eq_true.1 h x hx)
theorem prC_len {n c : Nat} {cs : List EvT.den} (h : cs.all (insOk n c) = true) (h2 : ∀ x ∈ cs, inR .i64 x.2) : (prC cs).length ≤ 40 * cs.length := flat_len fun x hx => by
 have := List.all_eq_true.1 h x hx
 simp only [insOk, Bool.and_eq_true, decide_eq_true_eq] at this
 exact lnL_len this.1 (h2 x hx)
def printL (ns : List ByteArray) (cs : List EvT.den) : List UInt8 := prN ns ++ prC cs
end Go.V
