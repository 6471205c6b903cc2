/- A part of the proof layer, or functions of the given program in it: contracts and their proofs. -/
import Derived.Test.YtaeoiobjddknbaaDoorMC1
import Derived.Test.YtaeoiobjddknbaaDoorMS4
namespace Go.V
open Go.Proofs
set_option maxRecDepth 100000
set_option linter.unusedSimpArgs false
set_option linter.unnecessarySimpa false
set_option linter.unusedVariables false
def C44 : Contract := fun args hp K => match args with
 | [.ptr 0 0, .str s] => onWr hp fun bs => bs.length + s.size ≤ 70368744177664 ∧ K (.tup []) (wrH true (bs ++ textB s))
 | _ => False
theorem s44 : Sound Tryd.prog 44 C44 := by
 refine sound_of_okF ok44 (.cons s43 (callable_of_okF ok43) .nil) ?_
 intro args hp K h
 unfold C44 at h
 split at h
 ·rename_i s
  obtain ⟨bs, rfl, hb, h⟩ := h
  refine ⟨by simp, [], ?_⟩
  unfold wrH at h ⊢
  simp (maxSteps:=9^9) only [a44, r44, C43, wrH, go_sem, Int.reduceLT, Int.reduceLE, Int.reduceEq, Int.reduceNe, Int.reduceAdd, Int.reduceSub, Int.reduceMul, Int.reduceToNat, Int.reduceNeg, Nat.reduceEqDiff, Nat.reduceLeDiff, Nat.reduceSub, Nat.reduceMul, Nat.reduceLT, Nat.reduceBEq, Nat.reduceAdd]
  rintro _ m rfl _ m1 hm1
  rw [wu64 (by omega)] at hm1
  subst hm1
  have hl := (numB_length s.size).2
  have hs : s.data.toList.length = s.size := by rw [Array.length_toList]; rfl
  refine ⟨by omega, fun _ _ => ?_, fun _ => ?_⟩
  ·rw [hs, List.length_append]; omega
  ·rw [List.append_assoc]; exact h
 ·exact h.elim
theorem u64wrap (x : Int) : IntKind.u64.wrap x = x % 18446744073709551616 := by
 simp [IntKind.wrap, IntKind.signed, IntKind.bits]
theorem xor_zero {k : IntKind} {a : Int} (h : inR k a) : bitsI .xor k a 0 = a := by
 have h0 : BitVec.ofInt k.bits 0 = 0#k.bits := by simp
 have e : bitsI .xor k a 0 = k.wrap ((BitVec.ofInt k.bits a).toNat : Int) := by simp [bitsI]
 rw [e]
 have := wrap_in h
 rw [BitVec.toNat_ofInt]
 cases k <;> simp [IntKind.wrap, IntKind.signed, IntKind.bits] at this ⊢ <;> omega
theorem xor_ones {a : Int} (h : 0 ≤ a ∧ a ≤ 18446744073709551615) : bitsI .xor .u64 a 18446744073709551615 = 18446744073709551615 - a := by
 have h0 : BitVec.ofInt 64 18446744073709551615 = BitVec.allOnes 64 := by decide
 have e : bitsI .xor .u64 a 18446744073709551615 = IntKind.u64.wrap ((~~~ (BitVec.ofInt 64 a)).toNat : Int) := by
  show IntKind.u64.wrap ((BitVec.ofInt 64 a ^^^ BitVec.ofInt 64 18446744073709551615).toNat : Int) = _
  rw [h0, BitVec.xor_allOnes]
 rw [e, BitVec.toNat_not, BitVec.toNat_ofInt, u64wrap]
 omega
theorem zig_bits {n : Int} (hn : -9223372036854775808 ≤ n ∧ n ≤ 9223372036854775807) :
  bitsI .xor .u64 (IntKind.u64.wrap (IntKind.u64.wrap n * 2 ^ min 1 64)) (IntKind.u64.wrap (n.fdiv (2 ^ min 63 64))) = zig n := by
 have e1 : (2 : Int) ^ min 1 64 = 2 := rfl
 have e2 : (2 : Int) ^ min 63 64 = 9223372036854775808 := rfl
 rw [e1, e2, u64wrap, u64wrap, u64wrap, Int.fdiv_eq_ediv_of_nonneg _ (by decide)]
 unfold zig
 split
 ·have h1 : n / 9223372036854775808 % 18446744073709551616 = 0 := by omega
  have h2 : n % 18446744073709551616 * 2 % 18446744073709551616 = 2 * n := by omega
  rw [h1, h2]
  exact xor_zero (inR_u64.2 (by omega))
 ·have h1 : n / 9223372036854775808 % 18446744073709551616 = 18446744073709551615 := by omega
  have h2 : n % 18446744073709551616 * 2 % 18446744073709551616 = 2 * n + 18446744073709551616 := by omega
  rw [h1, h2, xor_ones (by omega)]
  omega
def in64 (n : Int) : Prop := -9223372036854775808 ≤ n ∧ n ≤ 9223372036854775807
def C45 : Contract := fun args hp K => match args with
 | [.ptr 0 0, .int .i64 n] => onWr hp fun bs => bs.length ≤ 70368744177664 ∧ (in64 n → K (.tup []) (wrH true (bs ++ numB (zig n))))
 | _ => False
theorem s45 : Sound Tryd.prog 45 C45 := by
 refine sound_of_okF ok45 (.cons s43 (callable_of_okF ok43) .nil) ?_
 intro args hp K h
 unfold C45 at h
 split at h
 ·rename_i n
  obtain ⟨bs, rfl, hb, h⟩ := h
  refine ⟨by simp, [], ?_⟩
  unfold wrH at h ⊢
  simp (maxSteps:=9^9) only [a45, r45, C43, wrH, go_sem, Int.reduceLT, Int.reduceLE, Int.reduceEq, Int.reduceNe, Int.reduceAdd, Int.reduceSub, Int.reduceMul, Int.reduceToNat, Int.reduceNeg, Nat.reduceEqDiff, Nat.reduceLeDiff, Nat.reduceSub, Nat.reduceMul, Nat.reduceLT, Nat.reduceBEq, Nat.reduceAdd]
  rintro hn m rfl _ _ m1 hm1 _ _ m2 hm2 _ m3 hm3 _ _ m4 hm4
  rw [inR_i64] at hn
  have e : m4 = zig n := by
   rw [hm4, hm3, hm2, hm1]; exact zig_bits hn
  subst e
  exact ⟨hb, h hn⟩
 ·exact h.elim
/-! ### reading -/
def numR (b : List UInt8) : Option (Int × List UInt8) :=
 match b with
 | [] => none
 | x :: r => if x.toNat < 248 then some (x.toNat, r) else
  if r.length < x.toNat - 247 then none else
  if beN (r.take (x.toNat - 247)) < 248 ∨ r.headD 0 = 0 then none else some (beN (r.take (x.toNat - 247)), r.drop (x.toNat - 247))
def rdNum (st : Option (List UInt8)) : Int × Option (List UInt8) :=
 match st.bind numR with
 | some x => (x.1, some x.2)
 | none => (0, none)
def rdText (st : Option (List UInt8)) : ByteArray × Option (List UInt8) :=
 match (rdNum st).2 with
 | none => (ByteArray.empty, none)
 | some r => if (r.length : Int) < (rdNum st).1 then (ByteArray.empty, none) else (⟨(r.take (rdNum st).1.toNat).toArray⟩, some (r.drop (rdNum st).1.toNat))
def rdInt (st : Option (List UInt8)) : Int × Option (List UInt8) := (unz (rdNum st).1, (rdNum st).2)
def rdH (st : Option (List UInt8)) : SB := .struct [.sl true 1 .byte (st.getD []), .bool st.isNone]
def onRd (hp : List SB) (k : Option (List UInt8) → Prop) : Prop := ∃ st, hp = [rdH st] ∧ k st
@[go_sem] theorem onRd_eq {st : Option (List UInt8)} {k} : onRd [.struct [.sl true 1 .byte (no_index (Option.getD st ([] : List UInt8))), .bool (Option.isNone st)]] k = k st := by
 apply propext; constructor
 ·rintro ⟨st', h, hk⟩
  unfold rdH at h
  have : st = st' := by
   simp at h
   cases st <;> cases st' <;> simp_all
  subst this
  exact hk
 ·exact fun h => ⟨st, rfl, h⟩
@[go_sem] theorem onRd_eq2 {bs k} : onRd [.struct [.sl true 1 .byte (no_index bs), .bool false]] k = k (some bs) := onRd_eq (st := some bs)
def C70 : Contract := fun args hp K => match args, hp with
 | [.ptr 0 0], [.struct [.sl p 1 .byte bs, .bool b]] => K (.tup []) [.struct [.nils, .bool true]]
 | _, _ => False
theorem s70 : Sound Tryd.prog 70 C70 := by
 refine sound_of_okF ok70 .nil ?_
 intro args hp K h
 unfold C70 at h
 split at h
 ·refine ⟨by simp, [], ?_⟩
  simp (maxSteps:=9^9) only [a70, r70, go_sem, Int.reduceLT, Int.reduceLE, Int.reduceEq, Int.reduceNe, Int.reduceAdd, Int.reduceSub, Int.reduceMul, Int.reduceToNat, Int.reduceNeg, Nat.reduceEqDiff, Nat.reduceLeDiff, Nat.reduceSub, Nat.reduceMul, Nat.reduceLT, Nat.reduceBEq, Nat.reduceAdd]
  exact h
 ·exact h.elim
def C50 : Contract := fun args hp K => match args, hp with
 | [x], [] => onL .byte 1 x fun xs => K (.ptr 0 0) [rdH (some xs)]
 | _, _ => False
theorem s50 : Sound Tryd.prog 50 C50 := by
 refine sound_of_okF ok50 .nil ?_
 intro args hp K h
 unfold C50 at h
 split at h
 ·refine ⟨by simp, [], ?_⟩
  rcases h with ⟨rfl, h⟩ | ⟨p, xs, rfl, h⟩
  ·simp (maxSteps:=9^9) only [a50, r50, go_sem, Int.reduceLT, Int.reduceLE, Int.reduceEq, Int.reduceNe, Int.reduceAdd, Int.reduceSub, Int.reduceMul, Int.reduceToNat, Int.reduceNeg, Nat.reduceEqDiff, Nat.reduceLeDiff, Nat.reduceSub, Nat.reduceMul, Nat.reduceLT, Nat.reduceBEq, Nat.reduceAdd]
   exact h
  ·simp (maxSteps:=9^9) only [a50, r50, go_sem, Int.reduceLT, Int.reduceLE, Int.reduceEq, Int.reduceNe, Int.reduceAdd, Int.reduceSub, Int.reduceMul, Int.reduceToNat, Int.reduceNeg, Nat.reduceEqDiff, Nat.reduceLeDiff, Nat.reduceSub, Nat.reduceMul, Nat.reduceLT, Nat.reduceBEq, Nat.reduceAdd]
   exact ⟨id, fun _ => h⟩
 ·exact h.elim
def C54 : Contract := fun args hp K => match args with
 | [.ptr 0 0] => onRd hp fun st => K (.bool (decide (st = some []))) [rdH st]
 | _ => False
theorem s54 : Sound Tryd.prog 54 C54 := by
 refine sound_of_okF ok54 .nil ?_
 intro args hp K h
 unfold C54 at h
 split at h
 ·obtain ⟨st, rfl, h⟩ := h
  refine ⟨by simp, [], ?_⟩
  unfold rdH at h ⊢
  simp (maxSteps:=9^9) only [a54, r54, go_sem, Int.reduceLT, Int.reduceLE, Int.reduceEq, Int.reduceNe, Int.reduceAdd, Int.reduceSub, Int.reduceMul, Int.reduceToNat, Int.reduceNeg, Nat.reduceEqDiff, Nat.reduceLeDiff, Nat.reduceSub, Nat.reduceMul, Nat.reduceLT, Nat.reduceBEq, Nat.reduceAdd]
  refine sw_intro (fun h1 => ?_) (fun h1 => ?_)
  ·cases st with
   | none => exact h
   | some bs => cases h1
  ·cases st with
   | none => cases h1
   | some bs =>
    rintro _ _ m rfl c hc
    have e : c = decide (some bs = some ([] : List UInt8)) := by
     rw [hc]; cases bs <;> simp
     omega
    rw [e]; exact h
 ·exact h.elim
def C51 : Contract := fun args hp K => match args with
 | [.ptr 0 0] => onRd hp fun st => K (.int .u64 (rdNum st).1) [rdH (rdNum st).2]
 | _ => False
def L51 (bs l : List UInt8) (k : Nat) : LoopAnn := cntA (fun i => ⟨[(0, .ptr 0 0), (4, .int .i64 k), (5, .int .u64 (beN (l.take i))), (61, .sl true 1 .byte l), (62, .int .i64 k), (63, .int .i64 i)], [.struct [.sl true 1 .byte bs, .bool false]]⟩) k
theorem beN_append (l : List UInt8) (x : UInt8) : beN (l ++ [x]) = beN l * 256 + x.toNat := by simp [beN]
theorem beN_lt' (l : List UInt8) : ∀ a : Nat, l.foldl (fun a b => a * 256 + b.toNat) a < (a + 1) * 256 ^ l.length := by
 induction l with
 | nil => intro a; simp
 | cons x r ih =>
  intro a
  rw [List.foldl_cons, List.length_cons]
  have h1 := ih (a * 256 + x.toNat)
  have h2 : x.toNat < 256 := x.toNat_lt
  have h3 : (a * 256 + x.toNat + 1) * 256 ^ r.length ≤ ((a + 1) * 256) * 256 ^ r.length := Nat.mul_le_mul_right _ (by omega)
  have h4 : (a + 1) * 256 ^ (r.length + 1) = ((a + 1) * 256) * 256 ^ r.length := by rw [Nat.pow_succ, Nat.mul_assoc, Nat.mul_comm (256 ^ r.length)]
  omega
theorem beN_lt (l : List UInt8) : beN l < 256 ^ l.length := by have := beN_lt' l 0; simpa [beN] using this
theorem or_add {a c : Int} (h1 : 0 ≤ a) (h2 : a < 72057594037927936) (h3 : 0 ≤ c ∧ c < 256) : bitsI .or .u64 (IntKind.u64.wrap (a * 2 ^ min 8 64)) c = a * 256 + c := by
 have e0 : (2 : Int) ^ min 8 64 = 256 := rfl
 rw [e0, u64wrap, show a * 256 % 18446744073709551616 = a * 256 by omega]
 obtain ⟨x, rfl⟩ := Int.eq_ofNat_of_zero_le h1
 obtain ⟨y, rfl⟩ := Int.eq_ofNat_of_zero_le h3.1
 have h : x <<< 8 + y = x <<< 8 ||| y := Nat.shiftLeft_add_eq_or_of_lt (by omega) x
 rw [Nat.shiftLeft_eq] at h
 have e1 : ((x : Int) * 256) = ((x * 256 : Nat) : Int) := by omega
 show IntKind.u64.wrap ((BitVec.ofInt 64 ((x : Int) * 256) ||| BitVec.ofInt 64 (y : Int)).toNat : Int) = _
 rw [e1, BitVec.ofInt_natCast, BitVec.ofInt_natCast, BitVec.toNat_or, BitVec.toNat_ofNat, BitVec.toNat_ofNat, Nat.mod_eq_of_lt (by omega), Nat.mod_eq_of_lt (by omega), u64wrap]
 have h' : x * 2 ^ 8 + y = x * 256 ||| y := h
 rw [← h']
 omega
theorem beN_step' {l : List UInt8} {i : Nat} (hi8 : i < 8) (hlt : i < l.length) :
  bitsI .or .u64 (IntKind.u64.wrap ((beN (l.take i) : Int) * 2 ^ min 8 64)) (UInt8.toNat (elt Ty.byte l i) : Int) = (beN (l.take (i + 1)) : Int) := by
 have h1 := beN_lt (l.take i)
 have h2 : (l.take i).length = i := by rw [List.length_take]; omega
 rw [h2] at h1
 have h3 : 256 ^ i ≤ 256 ^ 7 := Nat.pow_le_pow_right (by decide) (by omega)
 have h4 : UInt8.toNat (elt Ty.byte l i) < 256 := UInt8.toNat_lt _
 rw [or_add (by omega) (by omega) (by omega)]
 have h5 := take_elt (t := .byte) hlt
 rw [← h5]
 have h6 : beN (l.take i ++ [elt Ty.byte l i]) = beN (l.take i) * 256 + UInt8.toNat (elt Ty.byte l i) := beN_append _ _
 rw [h6]
 omega
theorem beN_step {l : List UInt8} {k i : Nat} (hk : k ≤ 8) (hl : l.length = k) (hi : i < k) :
  bitsI .or .u64 (IntKind.u64.wrap ((beN (l.take i) : Int) * 2 ^ min 8 64)) (UInt8.toNat (elt Ty.byte l i) : Int) = (beN (l.take (i + 1)) : Int) := beN_step' (by omega) (by omega)
theorem s51 : Sound Tryd.prog 51 C51 := by
 refine sound_of_okF ok51 (.cons s70 (callable_of_okF ok70) .nil) ?_
 intro args hp K h
 unfold C51 at h
 split at h
 ·obtain ⟨st, rfl, h⟩ := h
  refine ⟨by simp, [(1, L51 (st.getD []) (((st.getD []).drop 1).take (((st.getD []).headD 0).toNat - 247)) (((st.getD []).headD 0).toNat - 247))], ?_⟩
  unfold rdH at h ⊢
  simp (maxSteps:=9^9) only [a51, r51, C70, go_sem, Int.reduceLT, Int.reduceLE, Int.reduceEq, Int.reduceNe, Int.reduceAdd, Int.reduceSub, Int.reduceMul, Int.reduceToNat, Int.reduceNeg, Nat.reduceEqDiff, Nat.reduceLeDiff, Nat.reduceSub, Nat.reduceMul, Nat.reduceLT, Nat.reduceBEq, Nat.reduceAdd]
  refine sw_intro (fun h1 => ?_) (fun h1 => ?_)
  ·cases st with
   | none => exact h
   | some bs => cases h1
  ·cases st with
   | none => cases h1
   | some bs =>
    simp only [Option.getD_some, Option.isNone_some]
    rintro _ hb m rfl c hc
    cases bs with
    | nil =>
     have : c = true := by rw [hc]; rfl
     subst this
     exact h
    | cons x r =>
     have : c = false := by rw [hc]; simp; omega
     subst this
     refine sw_intro (fun h => by cases h) (fun _ => nd_intro (by simp) ?_)
     have e0 : elt Ty.byte (x :: r) 0 = x := rfl
     have hx : x.toNat < 256 := x.toNat_lt
     simp only [e0]
     rintro c rfl
     refine sw_intro (fun h2 => ?_) (fun h2 => ?_) <;> simp only [decide_eq_true_eq, decide_eq_false_iff_not] at h2
     ·refine nd_intro (by simp; omega) ?_
      rintro ys rfl _ m hm
      rw [wu64 (by omega)] at hm
      subst hm
      have e1 : rdNum (some (x :: r)) = ((x.toNat : Int), some r) := by
       simp only [rdNum, Option.bind_some, numR]
       rw [if_pos (by omega)]
      rw [e1] at h
      have e2 : List.take ((x :: r).length - 1) (List.drop 1 (x :: r)) = r := by simp
      rw [e2]
      exact h
     ·rintro _ m hm
      rw [w64 (by omega)] at hm
      subst hm
      rintro _ _ m1 hm1
      rw [w64 (by omega)] at hm1
      rintro _ _ m2 rfl _ _ m3 hm3
      have hl : (x :: r).length = r.length + 1 := rfl
      have := maxLen_val
      rw [w64 (by omega)] at hm3
      rintro c rfl
      have hk : m1 = ((x.toNat - 247 : Nat) : Int) := by omega
      subst hk
      generalize hkk : x.toNat - 247 = k at *
      have hk1 : 1 ≤ k ∧ k ≤ 8 := by omega
      refine sw_intro (fun h3 => ?_) (fun h3 => ?_) <;> simp only [decide_eq_true_eq, decide_eq_false_iff_not] at h3
      ·have e1 : rdNum (some (x :: r)) = (0, none) := by
        simp only [rdNum, Option.bind_some, numR]
        rw [if_neg (by omega), hkk, if_pos (by omega)]
       rw [e1] at h
       exact h
      ·rintro _ _ m4 hm4
       rw [w64 (by omega)] at hm4
       subst hm4
       refine nd_intro ⟨by omega, by omega⟩ ?_
       rintro ys rfl _ _ m5 rfl
       have e3 : ((1 : Int) + (k : Int)).toNat - 1 = k := by omega
       rw [e3]
       have hlen : (List.take k (List.drop 1 (x :: r))).length = k := by simp; omega
       rw [hlen]
       have e5 : ((x :: r).headD 0).toNat - 247 = k := hkk
       rw [e5]
       refine loop_intro (A := L51 (x :: r) (List.take k (List.drop 1 (x :: r))) k) (0 : Nat) ?_ (Nat.zero_le _) ?_
       ·simp (maxSteps:=9^9) only [L51, cntA_I, go_sem, Int.reduceLT, Int.reduceLE, Int.reduceEq, Int.reduceNe, Int.reduceAdd, Int.reduceSub, Int.reduceMul, Int.reduceToNat, Int.reduceNeg, Nat.reduceEqDiff, Nat.reduceLeDiff, Nat.reduceSub, Nat.reduceMul, Nat.reduceLT, Nat.reduceBEq, Nat.reduceAdd]
        rfl
       ·intro (i : Nat) (hi : i ≤ k)
        simp (maxSteps:=9^9) only [L51, cntA_I, C70, go_sem, Int.reduceLT, Int.reduceLE, Int.reduceEq, Int.reduceNe, Int.reduceAdd, Int.reduceSub, Int.reduceMul, Int.reduceToNat, Int.reduceNeg, Nat.reduceEqDiff, Nat.reduceLeDiff, Nat.reduceSub, Nat.reduceMul, Nat.reduceLT, Nat.reduceBEq, Nat.reduceAdd]
        have hlen' : (List.take k r).length = k := hlen
        rintro c rfl
        refine sw_intro (fun hc => ?_) (fun hc => ?_) <;> simp only [decide_eq_true_eq, decide_eq_false_iff_not] at hc
        ·refine nd_intro (by omega) ?_
         have hc8 : UInt8.toNat (elt Ty.byte (List.take k r) i) < 256 := UInt8.toNat_lt _
         rintro _ _ m6 hm6 _ m7 hm7
         rw [wu64 (by omega)] at hm7
         rintro _ _ m8 hm8
         rw [hm6, hm7, beN_step hk1.2 hlen' hc] at hm8
         subst hm8
         rintro _ _ m9 hm9
         rw [w64 (by omega)] at hm9
         subst hm9
         exact cntA_next hc (by simp (maxSteps:=9^9) only [go_sem, Int.reduceLT, Int.reduceLE, Int.reduceEq, Int.reduceNe, Int.reduceAdd, Int.reduceSub, Int.reduceMul, Int.reduceToNat, Int.reduceNeg, Nat.reduceEqDiff, Nat.reduceLeDiff, Nat.reduceSub, Nat.reduceMul, Nat.reduceLT, Nat.reduceBEq, Nat.reduceAdd]; rfl)
        ·have hik : i = k := by omega
         subst hik
         have e6 : List.take i (List.take i r) = List.take i r := by rw [List.take_take, Nat.min_self]
         rw [e6]
         have e7 : rdNum (some (x :: r)) = match (if beN (r.take i) < 248 ∨ r.headD 0 = 0 then none else some ((beN (r.take i) : Int), r.drop i)) with | some x => (x.1, some x.2) | none => (0, none) := by
          simp only [rdNum, Option.bind_some, numR]
          rw [if_neg (by omega), hkk, if_neg (by omega)]
         rintro c rfl
         refine sw_intro (fun hc2 => ?_) (fun hc2 => ?_) <;> simp only [decide_eq_true_eq, decide_eq_false_iff_not] at hc2
         ·rw [if_pos (.inl (by omega))] at e7
          rw [e7] at h
          exact h
         ·refine nd_intro (by omega) (nd_intro (by omega) ?_)
          rintro c rfl
          have e8 : elt Ty.byte (x :: r) 1 = r.headD 0 := by cases r <;> rfl
          refine sw_intro (fun hc3 => ?_) (fun hc3 => ?_) <;> simp only [decide_eq_true_eq, decide_eq_false_iff_not, e8] at hc3
          ·rw [if_pos (.inr (UInt8.toNat_inj.1 (by show (r.headD 0).toNat = 0; omega)))] at e7
           rw [e7] at h
           exact h
          ·rintro _ _ m6 hm6
           rw [w64 (by omega)] at hm6
           subst hm6
           refine nd_intro ⟨by omega, by omega⟩ ?_
           rintro ys rfl
           have e9 : List.take (r.length + 1 - ((1 : Int) + (i : Int)).toNat) (List.drop ((1 : Int) + (i : Int)).toNat (x :: r)) = r.drop i := by
            have : ((1 : Int) + (i : Int)).toNat = i + 1 := by omega
            rw [this, List.drop_succ_cons, List.take_of_length_le (by rw [List.length_drop]; omega)]
           rw [e9]
           rw [if_neg (fun hh => hh.elim (fun h => by omega) (fun h => hc3 (by rw [h]; rfl)))] at e7
           rw [e7] at h
           exact h
 ·exact h.elim
theorem rdNum_in (st : Option (List UInt8)) : 0 ≤ (rdNum st).1 ∧ (rdNum st).1 ≤ 18446744073709551615 := by
 cases st with
 | none => simp [rdNum]
 | some bs =>
  cases bs with
  | nil => simp [rdNum, numR]
  | cons x r =>
   have hx : x.toNat < 256 := x.toNat_lt
   simp only [rdNum, Option.bind_some, numR]
   by_cases h1 : x.toNat < 248
   ·rw [if_pos h1]; simp; omega
   ·rw [if_neg h1]
    by_cases h2 : r.length < x.toNat - 247
    ·rw [if_pos h2]; simp
    ·rw [if_neg h2]
     split
     ·rename_i y hy
      split at hy
      ·cases hy
      ·cases hy
       have h3 := beN_lt (r.take (x.toNat - 247))
       have h4 : (r.take (x.toNat - 247)).length ≤ 8 := by rw [List.length_take]; omega
       have h5 : 256 ^ (r.take (x.toNat - 247)).length ≤ 256 ^ 8 := Nat.pow_le_pow_right (by decide) h4
       simp only
       omega
     ·simp
theorem and_one {n : Int} (hn : 0 ≤ n ∧ n ≤ 18446744073709551615) : bitsI .and .u64 n 1 = n % 2 := by
 obtain ⟨x, rfl⟩ := Int.eq_ofNat_of_zero_le hn.1
 show IntKind.u64.wrap ((BitVec.ofInt 64 (x : Int) &&& BitVec.ofInt 64 1).toNat : Int) = _
 have e1 : BitVec.ofInt 64 1 = BitVec.ofNat 64 1 := rfl
 rw [e1, BitVec.ofInt_natCast, BitVec.toNat_and, BitVec.toNat_ofNat, Nat.mod_eq_of_lt (by omega), u64wrap]
 have e2 : (BitVec.ofNat 64 1).toNat = 2 ^ 1 - 1 := rfl
 rw [e2, Nat.and_two_pow_sub_one_eq_mod]
 omega
theorem xor_m1 {a : Int} (h : 0 ≤ a ∧ a ≤ 9223372036854775807) : bitsI .xor .i64 a (-1) = -a - 1 := by
 have h0 : BitVec.ofInt 64 (-1) = BitVec.allOnes 64 := by decide
 have e : bitsI .xor .i64 a (-1) = IntKind.i64.wrap ((~~~ (BitVec.ofInt 64 a)).toNat : Int) := by
  show IntKind.i64.wrap ((BitVec.ofInt 64 a ^^^ BitVec.ofInt 64 (-1)).toNat : Int) = _
  rw [h0, BitVec.xor_allOnes]
 rw [e, BitVec.toNat_not, BitVec.toNat_ofInt]
 simp only [IntKind.wrap, IntKind.signed, IntKind.bits]
 simp
 omega
theorem unz_bits {n : Int} (hn : 0 ≤ n ∧ n ≤ 18446744073709551615) :
  bitsI .xor .i64 (IntKind.i64.wrap (n.fdiv (2 ^ min 1 64))) (IntKind.i64.wrap (0 - IntKind.i64.wrap (bitsI .and .u64 n 1))) = unz n := by
 have e1 : (2 : Int) ^ min 1 64 = 2 := rfl
 rw [e1, Int.fdiv_eq_ediv_of_nonneg _ (by decide), and_one hn, w64 (by omega), w64 (n := n % 2) (by omega), w64 (by omega)]
 unfold unz
 split
 ·rename_i h
  rw [h]
  exact xor_zero (inR_i64.2 (by omega))
 ·have e : n % 2 = 1 := by omega
  rw [e]
  exact xor_m1 (by omega)
def C52 : Contract := fun args hp K => match args with
 | [.ptr 0 0] => onRd hp fun st => ((rdText st).1.size ≤ 140737488355328 → K (.str (rdText st).1) [rdH (rdText st).2])
 | _ => False
theorem s52 : Sound Tryd.prog 52 C52 := by
 refine sound_of_okF ok52 (.cons s70 (callable_of_okF ok70) (.cons s51 (callable_of_okF ok51) .nil)) ?_
 intro args hp K h
 unfold C52 at h
 split at h
 ·obtain ⟨st, rfl, h⟩ := h
  refine ⟨by simp, [], ?_⟩
  unfold rdH at h ⊢
  simp (maxSteps:=9^9) only [a52, r52, C70, C51, rdH, go_sem, Int.reduceLT, Int.reduceLE, Int.reduceEq, Int.reduceNe, Int.reduceAdd, Int.reduceSub, Int.reduceMul, Int.reduceToNat, Int.reduceNeg, Nat.reduceEqDiff, Nat.reduceLeDiff, Nat.reduceSub, Nat.reduceMul, Nat.reduceLT, Nat.reduceBEq, Nat.reduceAdd]
  generalize hn : rdNum st = x at *
  obtain ⟨n, st'⟩ := x
  have hr := rdNum_in st
  rw [hn] at hr
  refine sw_intro (fun h1 => ?_) (fun h1 => ?_)
  ·cases st' with
   | none =>
    have e : rdText st = (ByteArray.empty, none) := by unfold rdText; rw [hn]
    rw [e] at h
    exact h (by decide)
   | some bs => cases h1
  ·cases st' with
   | none => cases h1
   | some bs =>
    simp only [Option.getD_some, Option.isNone_some]
    have := maxLen_val
    rintro hb hb2 m rfl _ m1 hm1
    rw [wu64 (by omega)] at hm1
    subst hm1
    rintro c rfl
    refine sw_intro (fun hc => ?_) (fun hc => ?_) <;> simp only [decide_eq_true_eq, decide_eq_false_iff_not] at hc
    ·have e : rdText st = (ByteArray.empty, none) := by unfold rdText; rw [hn]; exact if_pos hc
     rw [e] at h
     exact h (by decide)
    ·have e : rdText st = (⟨(bs.take n.toNat).toArray⟩, some (bs.drop n.toNat)) := by unfold rdText; rw [hn]; exact if_neg hc
     rw [e] at h
     refine nd_intro ⟨by omega, by omega⟩ ?_
     rintro ys rfl u rfl
     refine nd_intro ⟨by omega, by omega⟩ ?_
     rintro ys rfl
     rw [show n.toNat - 0 = n.toNat by omega, List.take_of_length_le (i := bs.length - n.toNat) (by rw [List.length_drop]; exact Nat.le_refl _)]
     exact h (by show ((bs.take n.toNat).toArray).size ≤ _; rw [List.size_toArray, List.length_take]; omega)
 ·exact h.elim
def C53 : Contract := fun args hp K => match args with
 | [.ptr 0 0] => onRd hp fun st => K (.int .i64 (rdInt st).1) [rdH (rdInt st).2]
 | _ => False
theorem s53 : Sound Tryd.prog 53 C53 := by
 refine sound_of_okF ok53 (.cons s51 (callable_of_okF ok51) .nil) ?_
 intro args hp K h
 unfold C53 at h
 split at h
 ·obtain ⟨st, rfl, h⟩ := h
  refine ⟨by simp, [], ?_⟩
  unfold rdH at h ⊢
  simp (maxSteps:=9^9) only [a53, r53, C51, rdH, go_sem, Int.reduceLT, Int.reduceLE, Int.reduceEq, Int.reduceNe, Int.reduceAdd, Int.reduceSub, Int.reduceMul, Int.reduceToNat, Int.reduceNeg, Nat.reduceEqDiff, Nat.reduceLeDiff, Nat.reduceSub, Nat.reduceMul, Nat.reduceLT, Nat.reduceBEq, Nat.reduceAdd]
  generalize hn : rdNum st = x at *
  obtain ⟨n, st'⟩ := x
  have hr := rdNum_in st
  rw [hn] at hr
  rintro _ _ m rfl _ m1 rfl _ _ m2 rfl _ m3 rfl _ m4 rfl _ _ m5 rfl
  rw [unz_bits hr]
  have e : rdInt st = (unz n, st') := by unfold rdInt; rw [hn]
  rw [e] at h
  exact h
 ·exact h.elim
end Go.V
namespace Go.V
open Go.Proofs
set_option maxRecDepth 100000
set_option linter.unusedSimpArgs false
set_option linter.unnecessarySimpa false
set_option linter.unusedVariables false
end Go.V
namespace Go.V
open Go.Proofs
set_option maxRecDepth 100000
set_option maxHeartbeats 8000000
set_option linter.unusedSimpArgs false
set_option linter.unnecessarySimpa false
set_option linter.unusedVariables false
def enN (ns : List ByteArray) : List UInt8 := ns.flatMap textB
def enI (x : EvT.den) : List UInt8 := numB x.1 ++ numB (zig x.2)
def enC (cs : List EvT.den) : List UInt8 := cs.flatMap enI
def enH (ns : List ByteArray) : List UInt8 := numB ns.length ++ enN ns
def encL (ns : List ByteArray) (cs : List EvT.den) : List UInt8 := (enH ns ++ numB cs.length) ++ enC cs
theorem enN_next {ns : List ByteArray} {i : Nat} (h : i < ns.length) : enN (ns.take (i + 1)) = enN (ns.take i) ++ textB (elt .str ns i) := by
 unfold enN
 rw [← take_elt (t := .str) h, List.flatMap_append, List.flatMap_cons, List.flatMap_nil, List.append_nil]
theorem enC_next {cs : List EvT.den} {i : Nat} (h : i < cs.length) : enC (cs.take (i + 1)) = enC (cs.take i) ++ enI (elt EvT cs i) := by
 unfold enC
 rw [← take_elt (t := EvT) h, List.flatMap_append, List.flatMap_cons, List.flatMap_nil, List.append_nil]
theorem enN_len {ns : List ByteArray} (h : ns.all keyOk = true) : (enN ns).length ≤ 49 * ns.length := flat_len fun x hx => by
 have h1 := key_size (List.all_eq_true.1 h x hx)
 have h2 := textB_length x
 omega
theorem enC_len {cs : List EvT.den} : (enC cs).length ≤ 18 * cs.length := flat_len fun x _ => by
 have h1 := numB_length x.1
 have h2 := numB_length (zig x.2)
 unfold enI
 rw [List.length_append]
 omega
def enOut (K : SV → List SB → Prop) (ns : List ByteArray) (cs : List EvT.den) : Prop := (formP ns cs = false → K (.tup [.own 0, .int .i64 1]) [.row true 1 .byte []]) ∧ (formP ns cs = true → K (.tup [.own 0, .int .i64 0]) [.row true 1 .byte (encL ns cs)])
def C20 : Contract := fun args hp K => match args, hp with
 | [.agg [.sl true 16 .str ns, .sl true 16 (.pair (.int .i64) (.int .i64)) cs]], [] => enOut K ns cs
 | _, _ => False
def L20 (ns : List ByteArray) (cs : List EvT.den) : LoopAnn := cntA (fun i => ⟨[(1, .ptr 0 0), (4, .ptr 1 0), (20, .sl true 16 .str ns), (21, .int .i64 ns.length), (22, .int .i64 i)], [.struct [.sl true 16 .str ns, .sl true 16 EvT cs], .struct [.own 2], .row true 1 .byte (numB ns.length ++ enN (ns.take i))]⟩) ns.length
def M20 (ns : List ByteArray) (cs : List EvT.den) : LoopAnn := cntA (fun i => ⟨[(4, .ptr 0 0), (37, .sl true 16 EvT cs), (38, .int .i64 cs.length), (39, .int .i64 i)], [.struct [.own 1], .row true 1 .byte ((enH ns ++ numB cs.length) ++ enC (cs.take i))]⟩) cs.length
attribute [local irreducible] rc
theorem s20 : Sound Tryd.prog 20 C20 := by
 refine sound_of_okF ok20 (.cons s17 (callable_of_okF ok17) (.cons s42 (callable_of_okF ok42) (.cons s43 (callable_of_okF ok43) (.cons s44 (callable_of_okF ok44) (.cons s45 (callable_of_okF ok45) (.cons s46 (callable_of_okF ok46) .nil)))))) ?_
 intro args hp K h
 unfold C20 at h
 split at h
 ·rename_i ns cs
  obtain ⟨hF, hT⟩ := h
  have hmx := maxLen_val
  refine ⟨by simp, [(1, L20 ns cs), (2, M20 ns cs)], ?_⟩
  simp (maxSteps:=9^9) only [a20, r20, go_sem, Int.reduceLT, Int.reduceLE, Int.reduceEq, Int.reduceNe, Int.reduceAdd, Int.reduceSub, Int.reduceMul, Int.reduceToNat, Int.reduceNeg, Nat.reduceEqDiff, Nat.reduceLeDiff, Nat.reduceSub, Nat.reduceMul, Nat.reduceLT, Nat.reduceBEq, Nat.reduceAdd]
  refine use17 ?_
  cases hf : formP ns cs with
  | false =>
   simp (maxSteps:=9^9) only [go_sem, Int.reduceLT, Int.reduceLE, Int.reduceEq, Int.reduceNe, Int.reduceAdd, Int.reduceSub, Int.reduceMul, Int.reduceToNat, Int.reduceNeg, Nat.reduceEqDiff, Nat.reduceLeDiff, Nat.reduceSub, Nat.reduceMul, Nat.reduceLT, Nat.reduceBEq, Nat.reduceAdd]
   exact hF hf
  | true =>
   have hT := hT hf
   obtain ⟨⟨hn1, hn2⟩, hk, hi2⟩ := formP_iff.1 hf
   have hnz := numB_length ns.length
   have hnc := numB_length cs.length
   simp (maxSteps:=9^9) only [wrH, C42, C43, C44, C45, C46, go_sem, Int.reduceLT, Int.reduceLE, Int.reduceEq, Int.reduceNe, Int.reduceAdd, Int.reduceSub, Int.reduceMul, Int.reduceToNat, Int.reduceNeg, Nat.reduceEqDiff, Nat.reduceLeDiff, Nat.reduceSub, Nat.reduceMul, Nat.reduceLT, Nat.reduceBEq, Nat.reduceAdd]
   rintro _ _ m hm _ m1 hm1
   rw [wu64 (by omega), hm] at hm1
   rw [hm1]
   rintro _ _ _ rfl
   refine loop_intro (A := L20 ns cs) (0 : Nat) ?_ (Nat.zero_le _) ?_
   ·simp (maxSteps:=9^9) only [go_sem, Int.reduceLT, Int.reduceLE, Int.reduceEq, Int.reduceNe, Int.reduceAdd, Int.reduceSub, Int.reduceMul, Int.reduceToNat, Int.reduceNeg, Nat.reduceEqDiff, Nat.reduceLeDiff, Nat.reduceSub, Nat.reduceMul, Nat.reduceLT, Nat.reduceBEq, Nat.reduceAdd]
    show _ = SS.mk _ [_, _, .row true 1 .byte (numB ns.length ++ enN (ns.take 0))]
    rw [List.take_zero]
    show _ = SS.mk _ [_, _, .row true 1 .byte (numB ns.length ++ [])]
    rw [List.append_nil]
    rfl
   ·intro (i : Nat) (hi : i ≤ ns.length)
    have hlc : (enN (ns.take i)).length ≤ 9000 := by
     have h1 := enN_len (ns := ns.take i) (List.all_eq_true.2 fun x hx => List.all_eq_true.1 hk x (List.mem_of_mem_take hx))
     rw [List.length_take] at h1
     omega
    unfold L20
    simp (maxSteps:=9^9) only [cntA_I, wrH, C43, C44, C45, C46, go_sem, Int.reduceLT, Int.reduceLE, Int.reduceEq, Int.reduceNe, Int.reduceAdd, Int.reduceSub, Int.reduceMul, Int.reduceToNat, Int.reduceNeg, Nat.reduceEqDiff, Nat.reduceLeDiff, Nat.reduceSub, Nat.reduceMul, Nat.reduceLT, Nat.reduceBEq, Nat.reduceAdd]
    intro c hc
    refine swd hc (fun h0 => ?_) (fun h0 => ?_)
    ·have h0 : i < ns.length := by omega
     have hkz := key_size (List.all_eq_true.1 hk (elt .str ns i) (elt_mem (t := .str) h0))
     refine nd_intro (by omega) ?_
     refine ⟨by simp only [List.length_append]; omega, ?_⟩
     rintro _ _ m1 hm1
     rw [w64 (by omega)] at hm1
     refine cntA_next h0 ?_
     rw [hm1, enN_next h0, ← List.append_assoc]
     rfl
    ·have hlast : ns.take i = ns := List.take_of_length_le (by omega)
     rintro _ _ m hm _ m1 hm1
     rw [wu64 (by omega), hm] at hm1
     rw [hm1]
     refine ⟨by simp only [List.length_append]; omega, ?_⟩
     rintro _ _ _ rfl
     refine loop_intro (A := M20 ns cs) (0 : Nat) ?_ (Nat.zero_le _) ?_
     ·simp (maxSteps:=9^9) only [go_sem, Int.reduceLT, Int.reduceLE, Int.reduceEq, Int.reduceNe, Int.reduceAdd, Int.reduceSub, Int.reduceMul, Int.reduceToNat, Int.reduceNeg, Nat.reduceEqDiff, Nat.reduceLeDiff, Nat.reduceSub, Nat.reduceMul, Nat.reduceLT, Nat.reduceBEq, Nat.reduceAdd]
      show _ = SS.mk _ [_, .row true 1 .byte ((enH ns ++ numB cs.length) ++ enC (cs.take 0))]
      rw [List.take_zero]
      show _ = SS.mk _ [_, .row true 1 .byte ((enH ns ++ numB cs.length) ++ [])]
      rw [List.append_nil, hlast]
      rfl
     ·intro (j : Nat) (hj : j ≤ cs.length)
      have hlc2 : (enH ns ++ numB cs.length ++ enC (cs.take j)).length ≤ 9000 := by
       have h1 := enN_len hk
       have h2 := enC_len (cs := cs.take j)
       rw [List.length_take] at h2
       simp only [enH, List.length_append]
       omega
      unfold M20
      simp (maxSteps:=9^9) only [cntA_I, wrH, C43, C44, C45, C46, go_sem, Int.reduceLT, Int.reduceLE, Int.reduceEq, Int.reduceNe, Int.reduceAdd, Int.reduceSub, Int.reduceMul, Int.reduceToNat, Int.reduceNeg, Nat.reduceEqDiff, Nat.reduceLeDiff, Nat.reduceSub, Nat.reduceMul, Nat.reduceLT, Nat.reduceBEq, Nat.reduceAdd]
      intro c hc
      refine swd hc (fun h0 => ?_) (fun h0 => ?_)
      ·have h0 : j < cs.length := by omega
       obtain ⟨hop, hop2⟩ := ins_in (x := elt EvT cs j) (List.all_eq_true.1 hi2 _ (elt_mem (t := EvT) h0))
       refine nd_intro (by omega) ?_
       rintro _ m1 hm1
       rw [wu64 (by omega)] at hm1
       rw [hm1]
       have hz := numB_length (elt EvT cs j).1
       refine ⟨by omega, by rw [List.length_append]; omega, ?_⟩
       rintro _ _ _ m2 hm2
       rw [w64 (by omega)] at hm2
       refine cntA_next h0 ?_
       rw [hm2]
       have e5 : enH ns ++ numB cs.length ++ enC (cs.take (j + 1)) = enH ns ++ numB cs.length ++ enC (cs.take j) ++ numB (elt EvT cs j).1 ++ numB (zig (elt EvT cs j).2) := by
        rw [enC_next h0]
        unfold enI
        simp only [List.append_assoc]
       rw [e5]
       rfl
      ·rw [List.take_of_length_le (by omega)]
       exact hT
 ·exact h.elim
end Go.V
namespace Go.V
open Go.Proofs
set_option maxRecDepth 100000
set_option maxHeartbeats 8000000
set_option linter.unusedSimpArgs false
set_option linter.unnecessarySimpa false
set_option linter.unusedVariables false
def nmAt (st : Option (List UInt8)) : Nat → List ByteArray × Option (List UInt8)
 | 0 => ([], st)
 | i + 1 => ((nmAt st i).1 ++ [(rdText (nmAt st i).2).1], (rdText (nmAt st i).2).2)
def inAt (st : Option (List UInt8)) : Nat → List EvT.den × Option (List UInt8)
 | 0 => ([], st)
 | i + 1 => ((inAt st i).1 ++ [(min (rdNum (inAt st i).2).1 200, (rdInt (rdNum (inAt st i).2).2).1)], (rdInt (rdNum (inAt st i).2).2).2)
theorem nmAt_s (st : Option (List UInt8)) (i : Nat) : nmAt st (i + 1) = ((nmAt st i).1 ++ [(rdText (nmAt st i).2).1], (rdText (nmAt st i).2).2) := rfl
theorem inAt_s (st : Option (List UInt8)) (i : Nat) : inAt st (i + 1) = ((inAt st i).1 ++ [(min (rdNum (inAt st i).2).1 200, (rdInt (rdNum (inAt st i).2).2).1)], (rdInt (rdNum (inAt st i).2).2).2) := rfl
theorem nmAt_len (st : Option (List UInt8)) (i : Nat) : (nmAt st i).1.length = i := by
 induction i with
 | zero => rfl
 | succ i ih => rw [nmAt_s]; simp [ih]
theorem inAt_len (st : Option (List UInt8)) (i : Nat) : (inAt st i).1.length = i := by
 induction i with
 | zero => rfl
 | succ i ih => rw [inAt_s]; simp [ih]
def decC (ns : List ByteArray) (st : Option (List UInt8)) : Option (List ByteArray × List EvT.den) :=
 if 200 < (rdNum st).1 then none else if (inAt (rdNum st).2 (rdNum st).1.toNat).2 = some [] ∧ formP ns (inAt (rdNum st).2 (rdNum st).1.toNat).1 = true then some (ns, (inAt (rdNum st).2 (rdNum st).1.toNat).1) else none
def decP (b : List UInt8) : Option (List ByteArray × List EvT.den) :=
 if 8 < (rdNum (some b)).1 then none else decC (nmAt (rdNum (some b)).2 (rdNum (some b)).1.toNat).1 (nmAt (rdNum (some b)).2 (rdNum (some b)).1.toNat).2
def dOut (K : SV → List SB → Prop) : Option (List ByteArray × List EvT.den) → Prop
 | none => K (.tup [.agg [.nils, .nils], .int .i64 2]) []
 | some p => K (.tup [.agg [.sl true 16 .str p.1, .sl true 16 EvT p.2], .int .i64 0]) []
def C22 : Contract := fun args hp K => match args, hp with
 | [.sl true 1 .byte xs], [] => dOut K (decP xs)
 | _, _ => False
def L22 (st : Option (List UInt8)) (n : Nat) : LoopAnn := cntA (fun i => ⟨[(2, .ptr 0 0), (4, .ptr 1 0), (5, .ptr 2 0), (15, .int .u64 n), (16, .int .u64 i)], [.struct [.nils, .nils], rdH (nmAt st i).2, .struct [.own 3, .own 4], .row true 16 .str (nmAt st i).1, .row true 16 EvT []]⟩) n
def M22 (ns : List ByteArray) (st : Option (List UInt8)) (n : Nat) : LoopAnn := cntA (fun i => ⟨[(2, .ptr 0 0), (4, .ptr 1 0), (5, .ptr 2 0), (31, .int .u64 n), (32, .int .u64 i)], [.struct [.nils, .nils], rdH (inAt st i).2, .struct [.own 3, .own 4], .row true 16 .str ns, .row true 16 EvT (inAt st i).1]⟩) n
attribute [local irreducible] rc
theorem s22 : Sound Tryd.prog 22 C22 := by
 refine sound_of_okF ok22 (.cons s50 (callable_of_okF ok50) (.cons s51 (callable_of_okF ok51) (.cons s52 (callable_of_okF ok52) (.cons s53 (callable_of_okF ok53) (.cons s54 (callable_of_okF ok54) (.cons s17 (callable_of_okF ok17) .nil)))))) ?_
 intro args hp K h
 unfold C22 at h
 split at h
 ·rename_i xs
  have hmx := maxLen_val
  have hr0 := rdNum_in (some xs)
  refine ⟨by simp, [(1, L22 (rdNum (some xs)).2 (rdNum (some xs)).1.toNat), (2, M22 (nmAt (rdNum (some xs)).2 (rdNum (some xs)).1.toNat).1 (rdNum (nmAt (rdNum (some xs)).2 (rdNum (some xs)).1.toNat).2).2 (rdNum (nmAt (rdNum (some xs)).2 (rdNum (some xs)).1.toNat).2).1.toNat)], ?_⟩
  simp (maxSteps:=9^9) only [a22, r22, C50, rdH, C51, go_sem, Int.reduceLT, Int.reduceLE, Int.reduceEq, Int.reduceNe, Int.reduceAdd, Int.reduceSub, Int.reduceMul, Int.reduceToNat, Int.reduceNeg, Nat.reduceEqDiff, Nat.reduceLeDiff, Nat.reduceSub, Nat.reduceMul, Nat.reduceLT, Nat.reduceBEq, Nat.reduceAdd]
  unfold decP at h
  generalize rdNum (some xs) = a at h hr0 ⊢
  obtain ⟨n0, st1⟩ := a
  simp only at h hr0 ⊢
  obtain ⟨n, rfl⟩ : ∃ n : Nat, n0 = n := ⟨n0.toNat, by omega⟩
  rw [Int.toNat_natCast] at h ⊢
  intro c hc
  refine swd hc (fun h8 => ?_) (fun h8 => ?_)
  ·rw [if_pos h8] at h
   exact h
  ·rw [if_neg h8] at h
   refine loop_intro (A := L22 st1 n) (0 : Nat) ?_ (Nat.zero_le _) ?_
   ·simp (maxSteps:=9^9) only [go_sem, Int.reduceLT, Int.reduceLE, Int.reduceEq, Int.reduceNe, Int.reduceAdd, Int.reduceSub, Int.reduceMul, Int.reduceToNat, Int.reduceNeg, Nat.reduceEqDiff, Nat.reduceLeDiff, Nat.reduceSub, Nat.reduceMul, Nat.reduceLT, Nat.reduceBEq, Nat.reduceAdd]
    rfl
   ·intro (i : Nat) (hi : i ≤ n)
    have hl := nmAt_len st1 i
    unfold L22
    simp (maxSteps:=9^9) only [cntA_I, rdH, C52, go_sem, Int.reduceLT, Int.reduceLE, Int.reduceEq, Int.reduceNe, Int.reduceAdd, Int.reduceSub, Int.reduceMul, Int.reduceToNat, Int.reduceNeg, Nat.reduceEqDiff, Nat.reduceLeDiff, Nat.reduceSub, Nat.reduceMul, Nat.reduceLT, Nat.reduceBEq, Nat.reduceAdd]
    intro c hc
    refine swd hc (fun h0 => ?_) (fun h0 => ?_)
    ·have h0 : i < n := by omega
     intro hsz
     refine ⟨fun _ => by omega, ?_⟩
     rintro _ _ _ m1 hm1
     rw [wu64 (by omega)] at hm1
     refine cntA_next h0 ?_
     rw [hm1]
     rfl
    ·have hin : i = n := by omega
     subst hin
     unfold decC at h
     simp (maxSteps:=9^9) only [C51, rdH, go_sem, Int.reduceLT, Int.reduceLE, Int.reduceEq, Int.reduceNe, Int.reduceAdd, Int.reduceSub, Int.reduceMul, Int.reduceToNat, Int.reduceNeg, Nat.reduceEqDiff, Nat.reduceLeDiff, Nat.reduceSub, Nat.reduceMul, Nat.reduceLT, Nat.reduceBEq, Nat.reduceAdd]
     have hr1 := rdNum_in (nmAt st1 i).2
     generalize nmAt st1 i = a at h hr1 hl ⊢
     obtain ⟨ns, st2⟩ := a
     simp only at h hr1 hl ⊢
     generalize rdNum st2 = a at h hr1 ⊢
     obtain ⟨k0, st3⟩ := a
     simp only at h hr1 ⊢
     obtain ⟨k, rfl⟩ : ∃ k : Nat, k0 = k := ⟨k0.toNat, by omega⟩
     rw [Int.toNat_natCast] at h ⊢
     intro c hc
     refine swd hc (fun h2 => ?_) (fun h2 => ?_)
     ·rw [if_pos h2] at h
      exact h
     ·rw [if_neg h2] at h
      refine loop_intro (A := M22 ns st3 k) (0 : Nat) ?_ (Nat.zero_le _) ?_
      ·simp (maxSteps:=9^9) only [go_sem, Int.reduceLT, Int.reduceLE, Int.reduceEq, Int.reduceNe, Int.reduceAdd, Int.reduceSub, Int.reduceMul, Int.reduceToNat, Int.reduceNeg, Nat.reduceEqDiff, Nat.reduceLeDiff, Nat.reduceSub, Nat.reduceMul, Nat.reduceLT, Nat.reduceBEq, Nat.reduceAdd]
       rfl
      ·intro (j : Nat) (hj : j ≤ k)
       have hl2 := inAt_len st3 j
       unfold M22
       simp (maxSteps:=9^9) only [cntA_I, rdH, C51, C53, go_sem, Int.reduceLT, Int.reduceLE, Int.reduceEq, Int.reduceNe, Int.reduceAdd, Int.reduceSub, Int.reduceMul, Int.reduceToNat, Int.reduceNeg, Nat.reduceEqDiff, Nat.reduceLeDiff, Nat.reduceSub, Nat.reduceMul, Nat.reduceLT, Nat.reduceBEq, Nat.reduceAdd]
       intro c hc
       refine swd hc (fun h0 => ?_) (fun h0 => ?_)
       ·have h0 : j < k := by omega
        have hr2 := rdNum_in (inAt st3 j).2
        rintro m hm _ m1 hm1
        have e1 : m = min (rdNum (inAt st3 j).2).1 200 := by rw [hm]; split <;> omega
        rw [w64 (by omega)] at hm1
        refine ⟨⟨fun m2 h2 => by rw [hm, h2], fun _ m2 h2 => by rw [h2, w64 (by omega), hm1]⟩, fun _ => by omega, ?_⟩
        rintro _ _ _ m3 hm3
        rw [wu64 (by omega)] at hm3
        refine cntA_next h0 ?_
        rw [hm3, hm1, e1]
        rfl
       ·have hin : j = k := by omega
        subst hin
        simp (maxSteps:=9^9) only [C54, rdH, go_sem, Int.reduceLT, Int.reduceLE, Int.reduceEq, Int.reduceNe, Int.reduceAdd, Int.reduceSub, Int.reduceMul, Int.reduceToNat, Int.reduceNeg, Nat.reduceEqDiff, Nat.reduceLeDiff, Nat.reduceSub, Nat.reduceMul, Nat.reduceLT, Nat.reduceBEq, Nat.reduceAdd]
        refine swd rfl (fun he => ?_) (fun he => ?_)
        ·refine use17 ?_
         cases fp : formP ns (inAt st3 j).1 with
         | false =>
          simp (maxSteps:=9^9) only [go_sem, Int.reduceLT, Int.reduceLE, Int.reduceEq, Int.reduceNe, Int.reduceAdd, Int.reduceSub, Int.reduceMul, Int.reduceToNat, Int.reduceNeg, Nat.reduceEqDiff, Nat.reduceLeDiff, Nat.reduceSub, Nat.reduceMul, Nat.reduceLT, Nat.reduceBEq, Nat.reduceAdd]
          rw [if_neg (by rw [fp]; simp)] at h
          exact h
         | true =>
          simp (maxSteps:=9^9) only [go_sem, Int.reduceLT, Int.reduceLE, Int.reduceEq, Int.reduceNe, Int.reduceAdd, Int.reduceSub, Int.reduceMul, Int.reduceToNat, Int.reduceNeg, Nat.reduceEqDiff, Nat.reduceLeDiff, Nat.reduceSub, Nat.reduceMul, Nat.reduceLT, Nat.reduceBEq, Nat.reduceAdd]
          rw [if_pos ⟨he, fp⟩] at h
          exact h
        ·rw [if_neg (fun hh => he hh.1)] at h
         exact h
 ·exact h.elim
end Go.V
namespace Go.V
open Go.Proofs
set_option maxRecDepth 100000
set_option maxHeartbeats 8000000
set_option linter.unusedSimpArgs false
set_option linter.unnecessarySimpa false
set_option linter.unusedVariables false
theorem use20 {ns : List ByteArray} {cs : List EvT.den} {K : SV → List SB → Prop} (h1 : formP ns cs = false → K (.tup [.own 0, .int .i64 1]) [.row true 1 .byte []]) (h2 : formP ns cs = true → K (.tup [.own 0, .int .i64 0]) [.row true 1 .byte (encL ns cs)]) : C20 [.agg [.sl true 16 .str ns, .sl true 16 EvT cs]] [] K := ⟨h1, h2⟩
theorem use22 {xs : List UInt8} {K : SV → List SB → Prop} (h : dOut K (decP xs)) : C22 [.sl true 1 .byte xs] [] K := h
theorem dOut_s {K : SV → List SB → Prop} {p} : dOut K (some p) = K (.tup [.agg [.sl true 16 .str p.1, .sl true 16 EvT p.2], .int .i64 0]) [] := rfl
attribute [local irreducible] rc
end Go.V
namespace Go.V
open Go.Proofs
set_option maxRecDepth 100000
set_option maxHeartbeats 4000000
set_option linter.unusedSimpArgs false
set_option linter.unnecessarySimpa false
set_option linter.unusedVariables false
theorem linesL_one {l : List UInt8} (h : l.contains 10 = false) (r : List UInt8) : linesL (l ++ 10 :: r) = l :: linesL r := by
 have key : ∀ (l acc : List UInt8), l.contains 10 = false → linesGo (l ++ 10 :: r) acc = (acc ++ l) :: linesGo r [] := by
  intro l
  induction l with
  | nil => intro acc _; simp [linesGo]
  | cons c l ih =>
   intro acc hc
   have h1 : ¬ c = 10 := by rintro rfl; simp at hc
   have h2 : l.contains 10 = false := by
    simp only [List.contains_cons, Bool.or_eq_false_iff] at hc
    exact hc.2
   show (if c = 10 then acc :: linesGo (l ++ 10 :: r) [] else linesGo (l ++ 10 :: r) (acc ++ [c])) = _
   rw [if_neg h1, ih _ h2, List.append_assoc]
   rfl
 exact key l [] h
theorem digV_hexT : ∀ x, x < 16 → digV (hexT.getD x 0) = some x := by decide +kernel
theorem hexT_ne : ∀ x, x < 16 → ¬ hexT.getD x 0 = 10 := by decide +kernel
theorem unhex_hex : ∀ l : List UInt8, unhexL (hexL l) = some l
 | [] => rfl
 | c :: r => by
  have hc := UInt8.toNat_lt c
  show unhexL (hexT.getD (c.toNat / 16) 0 :: hexT.getD (c.toNat % 16) 0 :: hexL r) = _
  simp only [unhexL]
  rw [digV_hexT _ (by omega), digV_hexT _ (by omega), unhex_hex r]
  simp only [Option.map_some]
  have : 16 * (c.toNat / 16) + c.toNat % 16 = c.toNat := by omega
  rw [this]
  simp
theorem no_app {a b : List UInt8} (h1 : a.contains 10 = false) (h2 : b.contains 10 = false) : (a ++ b).contains 10 = false := by
 simp only [List.contains_eq_mem, decide_eq_false_iff_not, List.mem_append, not_or] at *
 exact ⟨h1, h2⟩
theorem hexL_no : ∀ l : List UInt8, (hexL l).contains 10 = false
 | [] => rfl
 | c :: r => by
  have hc := UInt8.toNat_lt c
  refine no_app (a := hexC c) (b := hexL r) ?_ (hexL_no r)
  have h1 := hexT_ne (c.toNat / 16) (by omega)
  have h2 := hexT_ne (c.toNat % 16) (by omega)
  simp only [hexC, List.contains_eq_mem, decide_eq_false_iff_not, List.mem_cons, List.not_mem_nil, or_false, not_or]
  exact ⟨fun h => h1 h.symm, fun h => h2 h.symm⟩
theorem dec_no (k : Nat) : ∀ u : Nat, u < k → (Lib.decDigits u).contains 10 = false := by
 induction k with
 | zero => intro u h; omega
 | succ k ih =>
  intro u h
  have one : ∀ d, d < 10 → [UInt8.ofNat (48 + d)].contains 10 = false := by decide +kernel
  by_cases hu : u < 10
  ·rw [dec_small hu]
   exact one u hu
  ·rw [dec_big hu]
   exact no_app (ih _ (by omega)) (one _ (by omega))
theorem itoa_no (n : Int) : (Lib.itoa n).contains 10 = false := by
 unfold Lib.itoa
 split
 ·exact no_app (a := [45]) rfl (dec_no (n.natAbs + 1) _ (by omega))
 ·exact dec_no (n.toNat + 1) _ (by omega)
theorem word_no10 : ∀ j, j < 24 → (wordL j).contains 10 = false := by decide +kernel
theorem argL_no (x : EvT.den) : (argL x).contains 10 = false := by
 unfold argL
 split
 ·rfl
 ·exact no_app (a := [32]) rfl (itoa_no _)
theorem line_name {n : ByteArray} (h : keyOk n = true) : lineF (nameL ++ hexL n.data.toList) = some (.inl n) := by
 unfold lineF
 have h1 : nameL.isPrefixOf (nameL ++ hexL n.data.toList) = true := by
  rw [List.isPrefixOf_iff_prefix]
  exact ⟨_, rfl⟩
 have h2 : (nameL ++ hexL n.data.toList).drop 5 = hexL n.data.toList := rfl
 rw [if_pos h1, h2, unhex_hex]
 simp only [Option.bind_some]
 have h3 : bsOf n.data.toList = n := rfl
 rw [h3, if_pos h]
theorem numI_itoa {n : Int} (h : inR .i64 n) : numI (Lib.itoa n) = some n := by
 have h1 : -9223372036854775808 ≤ n ∧ n ≤ 9223372036854775807 := h
 unfold Lib.itoa
 split
 ·rename_i hn
  unfold numI
  rw [if_pos (show (45 :: Lib.decDigits n.natAbs).head? = some 45 from rfl)]
  show (natF (Lib.decDigits n.natAbs)).bind _ = _
  rw [natF_dec (by omega)]
  simp only [Option.bind_some]
  rw [if_neg (by omega)]
  congr 1
  omega
 ·rename_i hn
  have h45 : ¬ (Lib.decDigits n.toNat).head? = some 45 := by
   rcases Nat.eq_zero_or_pos n.toNat with h0 | h0
   ·rw [h0, dec_zero]; decide
   ·obtain ⟨c, r, e, _, h4⟩ := dec_head n.toNat h0
    rw [e]
    intro h5
    exact h4 (Option.some.inj h5)
  unfold numI
  rw [if_neg h45, natF_dec (by omega)]
  simp only [Option.bind_some]
  rw [if_neg (by omega)]
  congr 1
  omega
theorem word_not_name : ∀ j, j < 24 → 2 ≤ (wordL j).length ∧ ¬ (wordL j).take 2 = [110, 97] := by decide +kernel
theorem ins_ok {n c : Nat} {a b : Int} (h : insOk n c (a, b) = true) : ((0 : Int) ≤ a ∧ a.toNat < 24) ∧ (opK a = 0 → b = 0) := by
 simp only [insOk, Bool.and_eq_true, Bool.or_eq_true, decide_eq_true_eq] at h
 obtain ⟨h1, h2⟩ := h
 have h3 : (0 : Int) ≤ a ∧ a < (24 : Int) := h1
 refine ⟨⟨h3.1, by omega⟩, fun h0 => ?_⟩
 have h0' : opK (a, b).1 = 0 := h0
 rw [h0'] at h2
 rcases h2 with h2 | h2
 ·exact absurd h2 (by decide)
 ·have h4 : (0 : Int) ≤ b ∧ b < belowI 0 n c := h2
  have h5 : belowI 0 n c = 1 := rfl
  omega
theorem instr_line {n c : Nat} {a b : Int} (h : insOk n c (a, b) = true) (hb : inR .i64 b) : lineF (wordL a.toNat ++ argL (a, b)) = some (.inr (a, b)) := by
 have h1 := ins_ok h
 obtain ⟨⟨ha1, ha2⟩, hk⟩ := h1
 have hw := word_not_name a.toNat ha2
 have hp : ¬ nameL.isPrefixOf (wordL a.toNat ++ argL (a, b)) = true := by
  intro hp
  rw [List.isPrefixOf_iff_prefix] at hp
  obtain ⟨r, hr⟩ := hp
  have := congrArg (List.take 2) hr
  rw [List.take_append_of_le_length (by simp [nameL]), List.take_append_of_le_length hw.1] at this
  exact hw.2 this.symm
 unfold lineF
 rw [if_neg hp]
 have ea : ((a.toNat : Nat) : Int) = a := by omega
 have hi : instrF (wordL a.toNat ++ argL (a, b)) = some (a, b) := by
  unfold argL
  split
  ·rename_i h0
   have h0' : opK a.toNat = 0 := by rw [ea]; exact h0
   rw [List.append_nil, opM_instr ha2 (by unfold opM; rw [if_pos h0']; simp), if_pos h0', ea]
   have := hk h0
   rw [this]
  ·rename_i h0
   have h0' : ¬ opK a.toNat = 0 := by rw [ea]; exact h0
   have hm : opM (wordL a.toNat ++ 32 :: Lib.itoa b) a.toNat = true := by
    unfold opM
    rw [if_neg h0', List.isPrefixOf_iff_prefix]
    exact ⟨Lib.itoa b, by rw [List.append_assoc]; rfl⟩
   rw [opM_instr ha2 hm, if_neg h0', ea]
   have hd : (wordL a.toNat ++ 32 :: Lib.itoa b).drop ((wordL a.toNat).length + 1) = Lib.itoa b := by
    rw [← List.drop_drop, List.drop_left]
    rfl
   rw [hd, numI_itoa hb]
   rfl
 rw [hi]
 rfl
theorem parse_names : ∀ (ns : List ByteArray) (r : List UInt8) (i : Int) (ns0 : List ByteArray), ns.all keyOk = true → parseGo (linesL (prN ns ++ r)) i ns0 [] false = parseGo (linesL r) (i + ns.length) (ns0 ++ ns) [] false
 | [], r, i, ns0, _ => by simp [prN]
 | n :: ns, r, i, ns0, h => by
  simp only [List.all_cons, Bool.and_eq_true] at h
  have e : prN (n :: ns) ++ r = (nameL ++ hexL n.data.toList) ++ 10 :: (prN ns ++ r) := by
   show (nmL n ++ prN ns) ++ r = _
   unfold nmL
   simp only [List.append_assoc, List.cons_append, List.nil_append]
  rw [e, linesL_one (no_app rfl (hexL_no _))]
  simp only [parseGo, line_name h.1]
  have e2 : (false || decide (0 < ([] : List EvT.den).length)) = false := rfl
  rw [e2, parse_names ns r (i + 1) (ns0 ++ [n]) h.2]
  congr 1
  ·simp only [List.length_cons]; omega
  ·simp
theorem parse_code {m c : Nat} : ∀ (cs : List EvT.den) (r : List UInt8) (i : Int) (ns0 : List ByteArray) (cs0 : List EvT.den) (late : Bool), cs.all (insOk m c) = true → (∀ x ∈ cs, inR .i64 x.2) → parseGo (linesL (prC cs ++ r)) i ns0 cs0 late = parseGo (linesL r) (i + cs.length) ns0 (cs0 ++ cs) late
 | [], r, i, ns0, cs0, late, _, _ => by simp [prC]
 | (a, b) :: cs, r, i, ns0, cs0, late, h, hr => by
  rw [List.all_cons, Bool.and_eq_true] at h
  have e : prC ((a, b) :: cs) ++ r = (wordL a.toNat ++ argL (a, b)) ++ 10 :: (prC cs ++ r) := by
   show (lnL (a, b) ++ prC cs) ++ r = _
   unfold lnL
   simp only [List.append_assoc, List.cons_append, List.nil_append]
  have ha := ins_ok h.1
  rw [e, linesL_one (no_app (word_no10 _ ha.1.2) (argL_no _))]
  simp only [parseGo, instr_line h.1 (hr _ (List.mem_cons_self ..))]
  rw [parse_code cs r (i + 1) ns0 (cs0 ++ [(a, b)]) late h.2 (fun x hx => hr x (List.mem_cons_of_mem _ hx))]
  congr 1
  ·simp only [List.length_cons]; omega
  ·simp
theorem parse_print {ns : List ByteArray} {cs : List EvT.den} (h : formP ns cs = true) (hr : ∀ x ∈ cs, inR .i64 x.2) (r : List UInt8) : parseGo (linesL (printL ns cs ++ r)) 1 [] [] false = parseGo (linesL r) (1 + ns.length + cs.length) ns cs false := by
 obtain ⟨_, h2, h3⟩ := formP_iff.1 h
 unfold printL
 rw [List.append_assoc, parse_names ns _ 1 [] h2, parse_code cs r _ _ [] false h3 hr]
 simp
end Go.V
namespace Go.V
open Go.Proofs
set_option maxRecDepth 100000
set_option maxHeartbeats 8000000
set_option linter.unusedSimpArgs false
set_option linter.unnecessarySimpa false
set_option linter.unusedVariables false
theorem print_len {ns : List ByteArray} {cs : List EvT.den} (h : formP ns cs = true) (hr : ∀ x ∈ cs, inR .i64 x.2) : (printL ns cs).length ≤ 9000 := by
 obtain ⟨⟨hn1, hn2⟩, hk, hi2⟩ := formP_iff.1 h
 have h1 := prN_len hk
 have h2 := prC_len hi2 hr
 unfold printL
 rw [List.length_append]
 omega
attribute [local irreducible] rc
end Go.V
namespace Go.V
open Go.Proofs
set_option maxRecDepth 100000
set_option maxHeartbeats 4000000
set_option linter.unusedSimpArgs false
set_option linter.unnecessarySimpa false
set_option linter.unusedVariables false
theorem beB_succ (k n : Nat) : beB (k + 1) n = UInt8.ofNat (n / 256 ^ k) :: beB k n := by
 unfold beB
 rw [List.range_succ_eq_map, List.map_cons, List.map_map]
 congr 1
 apply List.map_congr_left
 intro j hj
 simp only [Function.comp]
 congr 3
 omega
theorem beN_beB' (n : Nat) : ∀ (k a : Nat), (beB k n).foldl (fun a b => a * 256 + b.toNat) a = a * 256 ^ k + n % 256 ^ k
 | 0, a => by simp [beB, Nat.mod_one]
 | k + 1, a => by
  rw [beB_succ, List.foldl_cons, beN_beB' n k]
  have h1 : (UInt8.ofNat (n / 256 ^ k)).toNat = n / 256 ^ k % 256 := by simp
  rw [h1, Nat.pow_succ, Nat.mod_mul, Nat.add_mul, Nat.mul_assoc, Nat.mul_comm 256 (256 ^ k), Nat.mul_comm (n / 256 ^ k % 256)]
  omega
theorem beN_beB {n k : Nat} (h : n < 256 ^ k) : beN (beB k n) = n := by
 have := beN_beB' n k 0
 rw [Nat.zero_mul, Nat.zero_add, Nat.mod_eq_of_lt h] at this
 exact this
theorem klen_hiN {n : Nat} (h : n ≤ 18446744073709551615) : n < 256 ^ klen n := by
 have := klen_hi (n := (n : Int)) (by omega)
 rw [Int.toNat_natCast] at this
 have e : ((256 : Int) ^ klen n) = ((256 ^ klen n : Nat) : Int) := by simp
 rw [e] at this
 omega
theorem klen_loN {n : Nat} (h : 256 ≤ n) : 256 ^ (klen n - 1) ≤ n := by
 have h2 : 2 ≤ klen n := by unfold klen; (repeat' split) <;> omega
 have := klen_lo (n := (n : Int)) (by omega) (klen n - 2) (by rw [Int.toNat_natCast]; omega)
 have e : ((256 : Int) ^ (klen n - 2 + 1)) = ((256 ^ (klen n - 1) : Nat) : Int) := by rw [show klen n - 2 + 1 = klen n - 1 by omega]; simp
 rw [e] at this
 omega
theorem numR_numB {n : Int} (h : 0 ≤ n ∧ n ≤ 18446744073709551615) (r : List UInt8) : numR (numB n ++ r) = some (n, r) := by
 obtain ⟨a, rfl⟩ := Int.eq_ofNat_of_zero_le h.1
 unfold numB
 by_cases h1 : (a : Int) < 248
 ·rw [if_pos h1, Int.toNat_natCast]
  simp only [List.cons_append, List.nil_append, numR]
  have e : (UInt8.ofNat a).toNat = a := by simp; omega
  rw [e, if_pos (by omega)]
 ·rw [if_neg h1, Int.toNat_natCast]
  have hk := klen_pos a
  simp only [List.cons_append, numR]
  have e : (UInt8.ofNat (247 + klen a)).toNat = 247 + klen a := by simp; omega
  have e2 : 247 + klen a - 247 = klen a := by omega
  have hl : (beB (klen a) a).length = klen a := beB_length _ _
  rw [e, e2, if_neg (by omega), if_neg (by rw [List.length_append, hl]; omega), List.take_append_of_le_length (by omega), List.take_of_length_le (by omega), beN_beB (klen_hiN (by omega)), List.drop_append_of_le_length (by omega), List.drop_of_length_le (by omega)]
  have hh : (beB (klen a) a ++ r).headD 0 ≠ 0 := by
   obtain ⟨k, hk2⟩ : ∃ k, klen a = k + 1 := ⟨klen a - 1, by omega⟩
   have hlo : 256 ^ k ≤ a := by
    by_cases h9 : 256 ≤ a
    ·have := klen_loN h9; rw [hk2] at this; exact this
    ·have : klen a = 1 := by unfold klen; rw [if_pos (by omega)]
     obtain rfl : k = 0 := by omega
     simp; omega
   have hhi := klen_hiN (n := a) (by omega)
   rw [hk2, Nat.pow_succ] at hhi
   rw [hk2, beB_succ]
   show UInt8.ofNat (a / 256 ^ k) ≠ 0
   intro h9
   have h10 : (UInt8.ofNat (a / 256 ^ k)).toNat = 0 := by rw [h9]; rfl
   have h11 : a / 256 ^ k % 256 = 0 := by simpa using h10
   have h12 : a / 256 ^ k < 256 := (Nat.div_lt_iff_lt_mul (Nat.pow_pos (by decide))).2 (by rw [Nat.mul_comm]; exact hhi)
   have h13 : 1 ≤ a / 256 ^ k := (Nat.one_le_div_iff (Nat.pow_pos (by decide))).2 hlo
   omega
  rw [if_neg (fun h9 => h9.elim (fun h9 => by omega) (fun h9 => hh h9))]
  rfl
theorem rdNum_numB {n : Int} (h : 0 ≤ n ∧ n ≤ 18446744073709551615) (r : List UInt8) : rdNum (some (numB n ++ r)) = (n, some r) := by
 simp only [rdNum, Option.bind_some, numR_numB h]
theorem toList_toArrayB (s : ByteArray) : (⟨s.data.toList.toArray⟩ : ByteArray) = s := by cases s; simp
theorem szB (s : ByteArray) : s.data.toList.length = s.size := by rw [Array.length_toList]; rfl
theorem rdText_textB {s : ByteArray} (h : s.size ≤ 1000000000) (r : List UInt8) : rdText (some (textB s ++ r)) = (s, some r) := by
 have e : rdNum (some (textB s ++ r)) = ((s.size : Int), some (s.data.toList ++ r)) := by
  unfold textB
  rw [List.append_assoc, rdNum_numB (by omega)]
 have hl := szB s
 unfold rdText
 rw [e]
 simp only [Int.toNat_natCast]
 rw [if_neg (by rw [List.length_append]; omega), List.take_append_of_le_length (by omega), List.take_of_length_le (by omega), List.drop_append_of_le_length (by omega), List.drop_of_length_le (by omega), toList_toArrayB]
 rfl
theorem unz_zig (n : Int) : unz (zig n) = n := by unfold unz zig; split <;> split <;> omega
theorem zig_in {n : Int} (h : -9223372036854775808 ≤ n ∧ n ≤ 9223372036854775807) : 0 ≤ zig n ∧ zig n ≤ 18446744073709551615 := by unfold zig; split <;> omega
theorem rdInt_zig {n : Int} (h : -9223372036854775808 ≤ n ∧ n ≤ 9223372036854775807) (r : List UInt8) : rdInt (some (numB (zig n) ++ r)) = (n, some r) := by
 unfold rdInt
 rw [rdNum_numB (zig_in h), unz_zig]
theorem nmAt_enN {ns : List ByteArray} (h : ns.all keyOk = true) (r : List UInt8) : ∀ i, i ≤ ns.length → nmAt (some (enN ns ++ r)) i = (ns.take i, some (enN (ns.drop i) ++ r))
 | 0, _ => rfl
 | i + 1, hi => by
  have hlt : i < ns.length := by omega
  have e := nmAt_enN h r i (by omega)
  rw [nmAt_s, e]
  have hd : ns.drop i = ns[i] :: ns.drop (i + 1) := List.drop_eq_getElem_cons hlt
  have hz := key_size (List.all_eq_true.1 h ns[i] (List.getElem_mem hlt))
  have e2 : enN (ns.drop i) ++ r = textB ns[i] ++ (enN (ns.drop (i + 1)) ++ r) := by
   rw [hd]
   show (textB ns[i] ++ enN (ns.drop (i + 1))) ++ r = _
   rw [List.append_assoc]
  simp only [e2]
  rw [rdText_textB (by omega), List.take_succ_eq_append_getElem hlt]
theorem inAt_enC {n c : Nat} {cs : List EvT.den} (h : cs.all (insOk n c) = true) (hr : ∀ x ∈ cs, inR .i64 x.2) (r : List UInt8) : ∀ i, i ≤ cs.length → inAt (some (enC cs ++ r)) i = (cs.take i, some (enC (cs.drop i) ++ r))
 | 0, _ => rfl
 | i + 1, hi => by
  have hlt : i < cs.length := by omega
  have e := inAt_enC h hr r i (by omega)
  rw [inAt_s, e]
  have hd : cs.drop i = cs[i] :: cs.drop (i + 1) := List.drop_eq_getElem_cons hlt
  have h1 := List.all_eq_true.1 h cs[i] (List.getElem_mem hlt)
  have h2 : inR .i64 cs[i].2 := hr cs[i] (List.getElem_mem hlt)
  have hc : ∃ a b : Int, cs[i] = (a, b) := ⟨_, _, rfl⟩
  obtain ⟨a, b, hab⟩ := hc
  rw [hab] at h1 h2
  have h3 := (ins_in (x := (a, b)) h1).1
  have h3' : (0 : Int) ≤ a ∧ a < 24 := h3
  have h4 : -9223372036854775808 ≤ b ∧ b ≤ 9223372036854775807 := h2
  have e2 : enC (cs.drop i) ++ r = numB a ++ (numB (zig b) ++ (enC (cs.drop (i + 1)) ++ r)) := by
   rw [hd, hab]
   show ((numB a ++ numB (zig b)) ++ enC (cs.drop (i + 1))) ++ r = _
   simp only [List.append_assoc]
  simp only [e2]
  rw [rdNum_numB (by omega)]
  simp only
  rw [rdInt_zig h4, List.take_succ_eq_append_getElem hlt, hab]
  have e5 : min a 200 = a := by omega
  simp only [e5]
theorem dec_enc {ns : List ByteArray} {cs : List EvT.den} (h : formP ns cs = true) (hr : ∀ x ∈ cs, inR .i64 x.2) : decP (encL ns cs) = some (ns, cs) := by
 obtain ⟨⟨hn1, hn2⟩, hk, hi2⟩ := formP_iff.1 h
 have e1 : encL ns cs = numB ns.length ++ (enN ns ++ (numB cs.length ++ (enC cs ++ []))) := by
  unfold encL enH
  simp only [List.append_assoc, List.append_nil]
 have e2 := rdNum_numB (n := (ns.length : Int)) (by omega) (enN ns ++ (numB cs.length ++ (enC cs ++ [])))
 have e3 := nmAt_enN hk (numB cs.length ++ (enC cs ++ [])) ns.length (Nat.le_refl _)
 rw [List.take_length, List.drop_length] at e3
 have e3' : nmAt (some (enN ns ++ (numB cs.length ++ (enC cs ++ [])))) ns.length = (ns, some (numB cs.length ++ (enC cs ++ []))) := e3
 have e4 := rdNum_numB (n := (cs.length : Int)) (by omega) (enC cs ++ [])
 have e5 := inAt_enC hi2 hr [] cs.length (Nat.le_refl _)
 rw [List.take_length, List.drop_length] at e5
 have e5' : inAt (some (enC cs ++ [])) cs.length = (cs, some []) := e5
 unfold decP
 rw [e1, e2]
 simp only [Int.toNat_natCast]
 rw [if_neg (by omega), e3']
 unfold decC
 simp only [e4, Int.toNat_natCast]
 rw [if_neg (by omega), e5', if_pos ⟨rfl, h⟩]
end Go.V
