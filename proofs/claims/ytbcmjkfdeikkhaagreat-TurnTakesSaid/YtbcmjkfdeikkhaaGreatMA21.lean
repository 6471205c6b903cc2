/- A part of the proof layer, or functions of the given program in it: contracts and their proofs. -/
import Derived.Test.YtbcmjkfdeikkhaaGreatMN3
import Derived.Test.YtbcmjkfdeikkhaaGreatMN1
import Derived.Test.YtbcmjkfdeikkhaaGreatVy
namespace Go.V
open Go.Proofs
set_option maxRecDepth 100000
set_option linter.unusedSimpArgs false
set_option linter.unnecessarySimpa false
set_option linter.unusedVariables false
def C62 : Contract := fun args hp K => match args with
 | [.ptr 0 0, .str s] => onWr hp fun bs => bs.length + s.size ≤ 70368744177664 ∧ K (.tup []) (wrH true (bs ++ textB s))
 | _ => False
theorem s62 : Sound Tryz.prog 62 C62 := by
 refine sound_of_okF ok62 (.cons s59 (callable_of_okF ok59) .nil) ?_
 intro args hp K h
 unfold C62 at h
 split at h
 ·rename_i s
  obtain ⟨bs, rfl, hb, h⟩ := h
  refine ⟨by simp, [], ?_⟩
  unfold wrH at h ⊢
  simp (maxSteps:=9^9) only [a62, r62, C59, wrH, go_sem, Nat.reduceSub, Nat.reduceLT, Nat.reduceBEq, Nat.reduceAdd]
  rintro _ m rfl _ m1 hm1
  rw [wu64 (by omega)] at hm1
  subst hm1
  have hl := (numB_length s.size).2
  have hs : s.data.toList.length = s.size := by rw [Array.length_toList]; rfl
  refine ⟨by omega, fun _ _ => ?_, fun _ => ?_⟩
  ·rw [hs, List.length_append]; omega
  ·rw [List.append_assoc]; exact h
 ·exact h.elim
theorem u64wrap (x : Int) : IntKind.u64.wrap x = x % 18446744073709551616 := by
 simp [IntKind.wrap, IntKind.signed, IntKind.bits]
theorem xor_zero {k : IntKind} {a : Int} (h : inR k a) : bitsI .xor k a 0 = a := by
 have h0 : BitVec.ofInt k.bits 0 = 0#k.bits := by simp
 have e : bitsI .xor k a 0 = k.wrap ((BitVec.ofInt k.bits a).toNat : Int) := by simp [bitsI]
 rw [e]
 have := wrap_in h
 rw [BitVec.toNat_ofInt]
 cases k <;> simp [IntKind.wrap, IntKind.signed, IntKind.bits] at this ⊢ <;> omega
theorem xor_ones {a : Int} (h : 0 ≤ a ∧ a ≤ 18446744073709551615) : bitsI .xor .u64 a 18446744073709551615 = 18446744073709551615 - a := by
 have h0 : BitVec.ofInt 64 18446744073709551615 = BitVec.allOnes 64 := by decide
 have e : bitsI .xor .u64 a 18446744073709551615 = IntKind.u64.wrap ((~~~ (BitVec.ofInt 64 a)).toNat : Int) := by
  show IntKind.u64.wrap ((BitVec.ofInt 64 a ^^^ BitVec.ofInt 64 18446744073709551615).toNat : Int) = _
  rw [h0, BitVec.xor_allOnes]
 rw [e, BitVec.toNat_not, BitVec.toNat_ofInt, u64wrap]
 omega
theorem zig_bits {n : Int} (hn : -9223372036854775808 ≤ n ∧ n ≤ 9223372036854775807) :
  bitsI .xor .u64 (IntKind.u64.wrap (IntKind.u64.wrap n * 2 ^ min 1 64)) (IntKind.u64.wrap (n.fdiv (2 ^ min 63 64))) = zig n := by
 have e1 : (2 : Int) ^ min 1 64 = 2 := rfl
 have e2 : (2 : Int) ^ min 63 64 = 9223372036854775808 := rfl
 rw [e1, e2, u64wrap, u64wrap, u64wrap, Int.fdiv_eq_ediv_of_nonneg _ (by decide)]
 unfold zig
 split
 ·have h1 : n / 9223372036854775808 % 18446744073709551616 = 0 := by omega
  have h2 : n % 18446744073709551616 * 2 % 18446744073709551616 = 2 * n := by omega
  rw [h1, h2]
  exact xor_zero (inR_u64.2 (by omega))
 ·have h1 : n / 9223372036854775808 % 18446744073709551616 = 18446744073709551615 := by omega
  have h2 : n % 18446744073709551616 * 2 % 18446744073709551616 = 2 * n + 18446744073709551616 := by omega
  rw [h1, h2, xor_ones (by omega)]
  omega
def in64 (n : Int) : Prop := -9223372036854775808 ≤ n ∧ n ≤ 9223372036854775807
def inI (xs : List Int) : Prop := ∀ x ∈ xs, -9223372036854775808 ≤ x ∧ x ≤ 9223372036854775807
def C108 : Contract := fun args hp K => match args with
 | [.ptr 0 0, .int .i64 n] => onWr hp fun bs => bs.length ≤ 70368744177664 ∧ (in64 n → K (.tup []) (wrH true (bs ++ numB (zig n))))
 | _ => False
theorem s108 : Sound Tryz.prog 108 C108 := by
 refine sound_of_okF ok108 (.cons s59 (callable_of_okF ok59) .nil) ?_
 intro args hp K h
 unfold C108 at h
 split at h
 ·rename_i n
  obtain ⟨bs, rfl, hb, h⟩ := h
  refine ⟨by simp, [], ?_⟩
  unfold wrH at h ⊢
  simp (maxSteps:=9^9) only [a108, r108, C59, wrH, go_sem, Int.reduceLE, Int.reduceToNat, Nat.reduceLT, Nat.reduceBEq, Nat.reduceAdd]
  rintro hn m rfl _ _ m1 hm1 _ _ m2 hm2 _ m3 hm3 _ _ m4 hm4
  rw [inR_i64] at hn
  have e : m4 = zig n := by
   rw [hm4, hm3, hm2, hm1]; exact zig_bits hn
  subst e
  exact ⟨hb, h hn⟩
 ·exact h.elim
/-! ### reading -/
def numR (b : List UInt8) : Option (Int × List UInt8) :=
 match b with
 | [] => none
 | x :: r => if x.toNat < 248 then some (x.toNat, r) else
  if r.length < x.toNat - 247 then none else
  if beN (r.take (x.toNat - 247)) < 248 ∨ r.headD 0 = 0 then none else some (beN (r.take (x.toNat - 247)), r.drop (x.toNat - 247))
def rdNum (st : Option (List UInt8)) : Int × Option (List UInt8) :=
 match st.bind numR with
 | some x => (x.1, some x.2)
 | none => (0, none)
def rdText (st : Option (List UInt8)) : ByteArray × Option (List UInt8) :=
 match (rdNum st).2 with
 | none => (ByteArray.empty, none)
 | some r => if (r.length : Int) < (rdNum st).1 then (ByteArray.empty, none) else (⟨(r.take (rdNum st).1.toNat).toArray⟩, some (r.drop (rdNum st).1.toNat))
def rdInt (st : Option (List UInt8)) : Int × Option (List UInt8) := (unz (rdNum st).1, (rdNum st).2)
def rdH (st : Option (List UInt8)) : SB := .struct [.sl true 1 .byte (st.getD []), .bool st.isNone]
def onRd (hp : List SB) (k : Option (List UInt8) → Prop) : Prop := ∃ st, hp = [rdH st] ∧ k st
@[go_sem] theorem onRd_eq {st : Option (List UInt8)} {k} : onRd [.struct [.sl true 1 .byte (no_index (Option.getD st ([] : List UInt8))), .bool (Option.isNone st)]] k = k st := by
 apply propext; constructor
 ·rintro ⟨st', h, hk⟩
  unfold rdH at h
  have : st = st' := by
   simp at h
   cases st <;> cases st' <;> simp_all
  subst this
  exact hk
 ·exact fun h => ⟨st, rfl, h⟩
@[go_sem] theorem onRd_eq2 {bs k} : onRd [.struct [.sl true 1 .byte (no_index bs), .bool false]] k = k (some bs) := onRd_eq (st := some bs)
def C109 : Contract := fun args hp K => match args, hp with
 | [.ptr 0 0], [.struct [.sl p 1 .byte bs, .bool b]] => K (.tup []) [.struct [.nils, .bool true]]
 | _, _ => False
theorem s109 : Sound Tryz.prog 109 C109 := by
 refine sound_of_okF ok109 .nil ?_
 intro args hp K h
 unfold C109 at h
 split at h
 ·refine ⟨by simp, [], ?_⟩
  simp (maxSteps:=9^9) only [a109, r109, go_sem, Nat.reduceLeDiff, Nat.reduceSub, Nat.reduceBEq, Nat.reduceAdd]
  exact h
 ·exact h.elim
def C64 : Contract := fun args hp K => match args, hp with
 | [x], [] => onL .byte 1 x fun xs => K (.ptr 0 0) [rdH (some xs)]
 | _, _ => False
theorem s64 : Sound Tryz.prog 64 C64 := by
 refine sound_of_okF ok64 .nil ?_
 intro args hp K h
 unfold C64 at h
 split at h
 ·refine ⟨by simp, [], ?_⟩
  rcases h with ⟨rfl, h⟩ | ⟨p, xs, rfl, h⟩
  ·simp (maxSteps:=9^9) only [a64, r64, go_sem, Nat.reduceLeDiff, Nat.reduceSub, Nat.reduceMul, Nat.reduceBEq, Nat.reduceAdd]
   exact h
  ·simp (maxSteps:=9^9) only [a64, r64, go_sem, Nat.reduceLeDiff, Nat.reduceSub, Nat.reduceMul, Nat.reduceBEq, Nat.reduceAdd]
   exact ⟨id, fun _ => h⟩
 ·exact h.elim
def C93 : Contract := fun args hp K => match args with
 | [.ptr 0 0] => onRd hp fun st => K (.bool st.isNone) [rdH st]
 | _ => False
theorem s93 : Sound Tryz.prog 93 C93 := by
 refine sound_of_okF ok93 .nil ?_
 intro args hp K h
 unfold C93 at h
 split at h
 ·obtain ⟨st, rfl, h⟩ := h
  refine ⟨by simp, [], ?_⟩
  unfold rdH at h ⊢
  simp (maxSteps:=9^9) only [a93, r93, go_sem, Nat.reduceSub, Nat.reduceBEq]
  exact h
 ·exact h.elim
def C70 : Contract := fun args hp K => match args with
 | [.ptr 0 0] => onRd hp fun st => K (.bool (decide (st = some []))) [rdH st]
 | _ => False
theorem s70 : Sound Tryz.prog 70 C70 := by
 refine sound_of_okF ok70 .nil ?_
 intro args hp K h
 unfold C70 at h
 split at h
 ·obtain ⟨st, rfl, h⟩ := h
  refine ⟨by simp, [], ?_⟩
  unfold rdH at h ⊢
  simp (maxSteps:=9^9) only [a70, r70, go_sem, Nat.reduceSub, Nat.reduceBEq]
  refine sw_intro (fun h1 => ?_) (fun h1 => ?_)
  ·cases st with
   | none => exact h
   | some bs => cases h1
  ·cases st with
   | none => cases h1
   | some bs =>
    rintro _ _ m rfl c hc
    have e : c = decide (some bs = some ([] : List UInt8)) := by
     rw [hc]; cases bs <;> simp
     omega
    rw [e]; exact h
 ·exact h.elim
def C65 : Contract := fun args hp K => match args with
 | [.ptr 0 0] => onRd hp fun st => K (.int .u64 (rdNum st).1) [rdH (rdNum st).2]
 | _ => False
def L65 (bs l : List UInt8) (k : Nat) : LoopAnn := cntA (fun i => ⟨[(0, .ptr 0 0), (4, .int .i64 k), (5, .int .u64 (beN (l.take i))), (61, .sl true 1 .byte l), (62, .int .i64 k), (63, .int .i64 i)], [.struct [.sl true 1 .byte bs, .bool false]]⟩) k
theorem beN_append (l : List UInt8) (x : UInt8) : beN (l ++ [x]) = beN l * 256 + x.toNat := by simp [beN]
theorem beN_lt' (l : List UInt8) : ∀ a : Nat, l.foldl (fun a b => a * 256 + b.toNat) a < (a + 1) * 256 ^ l.length := by
 induction l with
 | nil => intro a; simp
 | cons x r ih =>
  intro a
  rw [List.foldl_cons, List.length_cons]
  have h1 := ih (a * 256 + x.toNat)
  have h2 : x.toNat < 256 := x.toNat_lt
  have h3 : (a * 256 + x.toNat + 1) * 256 ^ r.length ≤ ((a + 1) * 256) * 256 ^ r.length := Nat.mul_le_mul_right _ (by omega)
  have h4 : (a + 1) * 256 ^ (r.length + 1) = ((a + 1) * 256) * 256 ^ r.length := by rw [Nat.pow_succ, Nat.mul_assoc, Nat.mul_comm (256 ^ r.length)]
  omega
theorem beN_lt (l : List UInt8) : beN l < 256 ^ l.length := by have := beN_lt' l 0; simpa [beN] using this
theorem or_add {a c : Int} (h1 : 0 ≤ a) (h2 : a < 72057594037927936) (h3 : 0 ≤ c ∧ c < 256) : bitsI .or .u64 (IntKind.u64.wrap (a * 2 ^ min 8 64)) c = a * 256 + c := by
 have e0 : (2 : Int) ^ min 8 64 = 256 := rfl
 rw [e0, u64wrap, show a * 256 % 18446744073709551616 = a * 256 by omega]
 obtain ⟨x, rfl⟩ := Int.eq_ofNat_of_zero_le h1
 obtain ⟨y, rfl⟩ := Int.eq_ofNat_of_zero_le h3.1
 have h : x <<< 8 + y = x <<< 8 ||| y := Nat.shiftLeft_add_eq_or_of_lt (by omega) x
 rw [Nat.shiftLeft_eq] at h
 have e1 : ((x : Int) * 256) = ((x * 256 : Nat) : Int) := by omega
 show IntKind.u64.wrap ((BitVec.ofInt 64 ((x : Int) * 256) ||| BitVec.ofInt 64 (y : Int)).toNat : Int) = _
 rw [e1, BitVec.ofInt_natCast, BitVec.ofInt_natCast, BitVec.toNat_or, BitVec.toNat_ofNat, BitVec.toNat_ofNat, Nat.mod_eq_of_lt (by omega), Nat.mod_eq_of_lt (by omega), u64wrap]
 have h' : x * 2 ^ 8 + y = x * 256 ||| y := h
 rw [← h']
 omega
theorem beN_step' {l : List UInt8} {i : Nat} (hi8 : i < 8) (hlt : i < l.length) :
  bitsI .or .u64 (IntKind.u64.wrap ((beN (l.take i) : Int) * 2 ^ min 8 64)) (UInt8.toNat (elt Ty.byte l i) : Int) = (beN (l.take (i + 1)) : Int) := by
 have h1 := beN_lt (l.take i)
 have h2 : (l.take i).length = i := by rw [List.length_take]; omega
 rw [h2] at h1
 have h3 : 256 ^ i ≤ 256 ^ 7 := Nat.pow_le_pow_right (by decide) (by omega)
 have h4 : UInt8.toNat (elt Ty.byte l i) < 256 := UInt8.toNat_lt _
 rw [or_add (by omega) (by omega) (by omega)]
 have h5 := take_elt (t := .byte) hlt
 rw [← h5]
 have h6 : beN (l.take i ++ [elt Ty.byte l i]) = beN (l.take i) * 256 + UInt8.toNat (elt Ty.byte l i) := beN_append _ _
 rw [h6]
 omega
theorem beN_step {l : List UInt8} {k i : Nat} (hk : k ≤ 8) (hl : l.length = k) (hi : i < k) :
  bitsI .or .u64 (IntKind.u64.wrap ((beN (l.take i) : Int) * 2 ^ min 8 64)) (UInt8.toNat (elt Ty.byte l i) : Int) = (beN (l.take (i + 1)) : Int) := beN_step' (by omega) (by omega)
theorem s65 : Sound Tryz.prog 65 C65 := by
 refine sound_of_okF ok65 (.cons s109 (callable_of_okF ok109) .nil) ?_
 intro args hp K h
 unfold C65 at h
 split at h
 ·obtain ⟨st, rfl, h⟩ := h
  refine ⟨by simp, [(1, L65 (st.getD []) (((st.getD []).drop 1).take (((st.getD []).headD 0).toNat - 247)) (((st.getD []).headD 0).toNat - 247))], ?_⟩
  unfold rdH at h ⊢
  simp (maxSteps:=9^9) only [a65, r65, C109, go_sem, Int.reduceLE, Int.reduceToNat, Nat.reduceSub, Nat.reduceBEq, Nat.reduceAdd]
  refine sw_intro (fun h1 => ?_) (fun h1 => ?_)
  ·cases st with
   | none => exact h
   | some bs => cases h1
  ·cases st with
   | none => cases h1
   | some bs =>
    simp only [Option.getD_some, Option.isNone_some]
    rintro _ hb m rfl c hc
    cases bs with
    | nil =>
     have : c = true := by rw [hc]; rfl
     subst this
     exact h
    | cons x r =>
     have : c = false := by rw [hc]; simp; omega
     subst this
     refine sw_intro (fun h => by cases h) (fun _ => nd_intro (by simp) ?_)
     have e0 : elt Ty.byte (x :: r) 0 = x := rfl
     have hx : x.toNat < 256 := x.toNat_lt
     simp only [e0]
     rintro c rfl
     refine sw_intro (fun h2 => ?_) (fun h2 => ?_) <;> simp only [decide_eq_true_eq, decide_eq_false_iff_not] at h2
     ·refine nd_intro (by simp; omega) ?_
      rintro ys rfl _ m hm
      rw [wu64 (by omega)] at hm
      subst hm
      have e1 : rdNum (some (x :: r)) = ((x.toNat : Int), some r) := by
       simp only [rdNum, Option.bind_some, numR]
       rw [if_pos (by omega)]
      rw [e1] at h
      have e2 : List.take ((x :: r).length - 1) (List.drop 1 (x :: r)) = r := by simp
      rw [e2]
      exact h
     ·rintro _ m hm
      rw [w64 (by omega)] at hm
      subst hm
      rintro _ _ m1 hm1
      rw [w64 (by omega)] at hm1
      rintro _ _ m2 rfl _ _ m3 hm3
      have hl : (x :: r).length = r.length + 1 := rfl
      have := maxLen_val
      rw [w64 (by omega)] at hm3
      rintro c rfl
      have hk : m1 = ((x.toNat - 247 : Nat) : Int) := by omega
      subst hk
      generalize hkk : x.toNat - 247 = k at *
      have hk1 : 1 ≤ k ∧ k ≤ 8 := by omega
      refine sw_intro (fun h3 => ?_) (fun h3 => ?_) <;> simp only [decide_eq_true_eq, decide_eq_false_iff_not] at h3
      ·have e1 : rdNum (some (x :: r)) = (0, none) := by
        simp only [rdNum, Option.bind_some, numR]
        rw [if_neg (by omega), hkk, if_pos (by omega)]
       rw [e1] at h
       exact h
      ·rintro _ _ m4 hm4
       rw [w64 (by omega)] at hm4
       subst hm4
       refine nd_intro ⟨by omega, by omega⟩ ?_
       rintro ys rfl _ _ m5 rfl
       have e3 : ((1 : Int) + (k : Int)).toNat - 1 = k := by omega
       rw [e3]
       have hlen : (List.take k (List.drop 1 (x :: r))).length = k := by simp; omega
       rw [hlen]
       have e5 : ((x :: r).headD 0).toNat - 247 = k := hkk
       rw [e5]
       refine loop_intro (A := L65 (x :: r) (List.take k (List.drop 1 (x :: r))) k) (0 : Nat) ?_ (Nat.zero_le _) ?_
       ·simp (maxSteps:=9^9) only [L65, cntA_I, go_sem, Nat.reduceBEq]
        rfl
       ·intro (i : Nat) (hi : i ≤ k)
        simp (maxSteps:=9^9) only [L65, cntA_I, C109, go_sem, Int.reduceLE, Int.reduceToNat, Nat.reduceSub, Nat.reduceBEq, Nat.reduceAdd]
        have hlen' : (List.take k r).length = k := hlen
        rintro c rfl
        refine sw_intro (fun hc => ?_) (fun hc => ?_) <;> simp only [decide_eq_true_eq, decide_eq_false_iff_not] at hc
        ·refine nd_intro (by omega) ?_
         have hc8 : UInt8.toNat (elt Ty.byte (List.take k r) i) < 256 := UInt8.toNat_lt _
         rintro _ _ m6 hm6 _ m7 hm7
         rw [wu64 (by omega)] at hm7
         rintro _ _ m8 hm8
         rw [hm6, hm7, beN_step hk1.2 hlen' hc] at hm8
         subst hm8
         rintro _ _ m9 hm9
         rw [w64 (by omega)] at hm9
         subst hm9
         exact cntA_next hc (by simp (maxSteps:=9^9) only [go_sem, Nat.reduceBEq]; rfl)
        ·have hik : i = k := by omega
         subst hik
         have e6 : List.take i (List.take i r) = List.take i r := by rw [List.take_take, Nat.min_self]
         rw [e6]
         have e7 : rdNum (some (x :: r)) = match (if beN (r.take i) < 248 ∨ r.headD 0 = 0 then none else some ((beN (r.take i) : Int), r.drop i)) with | some x => (x.1, some x.2) | none => (0, none) := by
          simp only [rdNum, Option.bind_some, numR]
          rw [if_neg (by omega), hkk, if_neg (by omega)]
         rintro c rfl
         refine sw_intro (fun hc2 => ?_) (fun hc2 => ?_) <;> simp only [decide_eq_true_eq, decide_eq_false_iff_not] at hc2
         ·rw [if_pos (.inl (by omega))] at e7
          rw [e7] at h
          exact h
         ·refine nd_intro (by omega) (nd_intro (by omega) ?_)
          rintro c rfl
          have e8 : elt Ty.byte (x :: r) 1 = r.headD 0 := by cases r <;> rfl
          refine sw_intro (fun hc3 => ?_) (fun hc3 => ?_) <;> simp only [decide_eq_true_eq, decide_eq_false_iff_not, e8] at hc3
          ·rw [if_pos (.inr (UInt8.toNat_inj.1 (by show (r.headD 0).toNat = 0; omega)))] at e7
           rw [e7] at h
           exact h
          ·rintro _ _ m6 hm6
           rw [w64 (by omega)] at hm6
           subst hm6
           refine nd_intro ⟨by omega, by omega⟩ ?_
           rintro ys rfl
           have e9 : List.take (r.length + 1 - ((1 : Int) + (i : Int)).toNat) (List.drop ((1 : Int) + (i : Int)).toNat (x :: r)) = r.drop i := by
            have : ((1 : Int) + (i : Int)).toNat = i + 1 := by omega
            rw [this, List.drop_succ_cons, List.take_of_length_le (by rw [List.length_drop]; omega)]
           rw [e9]
           rw [if_neg (fun hh => hh.elim (fun h => by omega) (fun h => hc3 (by rw [h]; rfl)))] at e7
           rw [e7] at h
           exact h
 ·exact h.elim
theorem rdNum_in (st : Option (List UInt8)) : 0 ≤ (rdNum st).1 ∧ (rdNum st).1 ≤ 18446744073709551615 := by
 cases st with
 | none => simp [rdNum]
 | some bs =>
  cases bs with
  | nil => simp [rdNum, numR]
  | cons x r =>
   have hx : x.toNat < 256 := x.toNat_lt
   simp only [rdNum, Option.bind_some, numR]
   by_cases h1 : x.toNat < 248
   ·rw [if_pos h1]; simp; omega
   ·rw [if_neg h1]
    by_cases h2 : r.length < x.toNat - 247
    ·rw [if_pos h2]; simp
    ·rw [if_neg h2]
     split
     ·rename_i y hy
      split at hy
      ·cases hy
      ·cases hy
       have h3 := beN_lt (r.take (x.toNat - 247))
       have h4 : (r.take (x.toNat - 247)).length ≤ 8 := by rw [List.length_take]; omega
       have h5 : 256 ^ (r.take (x.toNat - 247)).length ≤ 256 ^ 8 := Nat.pow_le_pow_right (by decide) h4
       simp only
       omega
     ·simp
theorem and_one {n : Int} (hn : 0 ≤ n ∧ n ≤ 18446744073709551615) : bitsI .and .u64 n 1 = n % 2 := by
 obtain ⟨x, rfl⟩ := Int.eq_ofNat_of_zero_le hn.1
 show IntKind.u64.wrap ((BitVec.ofInt 64 (x : Int) &&& BitVec.ofInt 64 1).toNat : Int) = _
 have e1 : BitVec.ofInt 64 1 = BitVec.ofNat 64 1 := rfl
 rw [e1, BitVec.ofInt_natCast, BitVec.toNat_and, BitVec.toNat_ofNat, Nat.mod_eq_of_lt (by omega), u64wrap]
 have e2 : (BitVec.ofNat 64 1).toNat = 2 ^ 1 - 1 := rfl
 rw [e2, Nat.and_two_pow_sub_one_eq_mod]
 omega
theorem xor_m1 {a : Int} (h : 0 ≤ a ∧ a ≤ 9223372036854775807) : bitsI .xor .i64 a (-1) = -a - 1 := by
 have h0 : BitVec.ofInt 64 (-1) = BitVec.allOnes 64 := by decide
 have e : bitsI .xor .i64 a (-1) = IntKind.i64.wrap ((~~~ (BitVec.ofInt 64 a)).toNat : Int) := by
  show IntKind.i64.wrap ((BitVec.ofInt 64 a ^^^ BitVec.ofInt 64 (-1)).toNat : Int) = _
  rw [h0, BitVec.xor_allOnes]
 rw [e, BitVec.toNat_not, BitVec.toNat_ofInt]
 simp only [IntKind.wrap, IntKind.signed, IntKind.bits]
 simp
 omega
theorem unz_bits {n : Int} (hn : 0 ≤ n ∧ n ≤ 18446744073709551615) :
  bitsI .xor .i64 (IntKind.i64.wrap (n.fdiv (2 ^ min 1 64))) (IntKind.i64.wrap (0 - IntKind.i64.wrap (bitsI .and .u64 n 1))) = unz n := by
 have e1 : (2 : Int) ^ min 1 64 = 2 := rfl
 rw [e1, Int.fdiv_eq_ediv_of_nonneg _ (by decide), and_one hn, w64 (by omega), w64 (n := n % 2) (by omega), w64 (by omega)]
 unfold unz
 split
 ·rename_i h
  rw [h]
  exact xor_zero (inR_i64.2 (by omega))
 ·have e : n % 2 = 1 := by omega
  rw [e]
  exact xor_m1 (by omega)
def C67 : Contract := fun args hp K => match args with
 | [.ptr 0 0] => onRd hp fun st => ((rdText st).1.size ≤ 140737488355328 → K (.str (rdText st).1) [rdH (rdText st).2])
 | _ => False
theorem s67 : Sound Tryz.prog 67 C67 := by
 refine sound_of_okF ok67 (.cons s109 (callable_of_okF ok109) (.cons s65 (callable_of_okF ok65) .nil)) ?_
 intro args hp K h
 unfold C67 at h
 split at h
 ·obtain ⟨st, rfl, h⟩ := h
  refine ⟨by simp, [], ?_⟩
  unfold rdH at h ⊢
  simp (maxSteps:=9^9) only [a67, r67, C109, C65, rdH, go_sem, Int.reduceToNat, Nat.reduceSub, Nat.reduceBEq, Nat.reduceAdd]
  generalize hn : rdNum st = x at *
  obtain ⟨n, st'⟩ := x
  have hr := rdNum_in st
  rw [hn] at hr
  refine sw_intro (fun h1 => ?_) (fun h1 => ?_)
  ·cases st' with
   | none =>
    have e : rdText st = (ByteArray.empty, none) := by unfold rdText; rw [hn]
    rw [e] at h
    exact h (by decide)
   | some bs => cases h1
  ·cases st' with
   | none => cases h1
   | some bs =>
    simp only [Option.getD_some, Option.isNone_some]
    have := maxLen_val
    rintro hb hb2 m rfl _ m1 hm1
    rw [wu64 (by omega)] at hm1
    subst hm1
    rintro c rfl
    refine sw_intro (fun hc => ?_) (fun hc => ?_) <;> simp only [decide_eq_true_eq, decide_eq_false_iff_not] at hc
    ·have e : rdText st = (ByteArray.empty, none) := by unfold rdText; rw [hn]; exact if_pos hc
     rw [e] at h
     exact h (by decide)
    ·have e : rdText st = (⟨(bs.take n.toNat).toArray⟩, some (bs.drop n.toNat)) := by unfold rdText; rw [hn]; exact if_neg hc
     rw [e] at h
     refine nd_intro ⟨by omega, by omega⟩ ?_
     rintro ys rfl u rfl
     refine nd_intro ⟨by omega, by omega⟩ ?_
     rintro ys rfl
     rw [show n.toNat - 0 = n.toNat by omega, List.take_of_length_le (i := bs.length - n.toNat) (by rw [List.length_drop]; exact Nat.le_refl _)]
     exact h (by show ((bs.take n.toNat).toArray).size ≤ _; rw [List.size_toArray, List.length_take]; omega)
 ·exact h.elim
def C110 : Contract := fun args hp K => match args with
 | [.ptr 0 0] => onRd hp fun st => K (.int .i64 (rdInt st).1) [rdH (rdInt st).2]
 | _ => False
theorem s110 : Sound Tryz.prog 110 C110 := by
 refine sound_of_okF ok110 (.cons s65 (callable_of_okF ok65) .nil) ?_
 intro args hp K h
 unfold C110 at h
 split at h
 ·obtain ⟨st, rfl, h⟩ := h
  refine ⟨by simp, [], ?_⟩
  unfold rdH at h ⊢
  simp (maxSteps:=9^9) only [a110, r110, C65, rdH, go_sem, Int.reduceLE, Int.reduceToNat, Nat.reduceBEq]
  generalize hn : rdNum st = x at *
  obtain ⟨n, st'⟩ := x
  have hr := rdNum_in st
  rw [hn] at hr
  rintro _ _ m rfl _ m1 rfl _ _ m2 rfl _ m3 rfl _ m4 rfl _ _ m5 rfl
  rw [unz_bits hr]
  have e : rdInt st = (unz n, st') := by unfold rdInt; rw [hn]
  rw [e] at h
  exact h
 ·exact h.elim
end Go.V
namespace Go.V
open Go.Proofs
set_option maxRecDepth 100000
set_option linter.unusedSimpArgs false
set_option linter.unnecessarySimpa false
set_option linter.unusedVariables false
end Go.V
namespace Go.V
open Go.Proofs
set_option maxRecDepth 100000
set_option linter.unusedSimpArgs false
set_option linter.unnecessarySimpa false
set_option linter.unusedVariables false
abbrev LetT : Ty := .pair .str (.pair (.int .u64) (.pair (.int .i64) (.sl 8 (.int .i64))))
abbrev OutT : Ty := .pair .str LetT
def obH (mv : Bool) (o : ByteArray) (l : List OutT.den) (m : List (ByteArray × Int)) : List SB :=
 [.struct [.str o, .own 1, .mp 2], .row mv 72 OutT l, .map false .str (.int .u64) m]
def onOb (hp : List SB) (k : ByteArray → List OutT.den → List (ByteArray × Int) → Prop) : Prop := ∃ o l m, hp = obH false o l m ∧ k o l m
@[go_sem] theorem onOb_eq {o l m k} : onOb [.struct [.str o, .own 1, .mp 2], .row false 72 (.pair .str (.pair .str (.pair (.int .u64) (.pair (.int .i64) (.sl 8 (.int .i64)))))) l, .map false .str (.int .u64) m] k = k o l m := by
 apply propext; constructor
 ·rintro ⟨o', l', m', h, hk⟩
  unfold obH at h
  cases h
  exact hk
 ·exact fun h => ⟨o, l, m, rfl, h⟩
def keyOk (s : ByteArray) : Bool := decide (s ≠ ByteArray.empty) && decide (s.size ≤ 40)
def C80 : Contract := fun args hp K => match args, hp with
 | [.str s], [] => K (.bool (keyOk s)) []
 | _, _ => False
theorem s80 : Sound Tryz.prog 80 C80 := by
 refine sound_of_okF ok80 (Γ := []) (fun f C h => by simp [lkC] at h) ?_
 intro args hp K h
 unfold C80 at h
 split at h
 ·rename_i s
  refine ⟨by simp, [], ?_⟩
  simp (maxSteps:=9^9) only [a80, r80, go_sem, Nat.reduceBEq]
  intro c hc
  refine sw_intro (fun hc1 => ?_) (fun hc1 => ?_)
  ·intro _ m hm c' hc'
   have e : keyOk s = c' := by simp [hc1] at hc; simp [keyOk, hc, hc', hm]; omega
   rw [← e]; exact h
  ·have e : keyOk s = false := by simp [hc1] at hc; simp [keyOk, hc]
   rw [← e]; exact h
 ·exact h.elim
def C71 : Contract := fun args hp K => match args, hp with
 | [.str s], [] => (keyOk s = true → K (.tup [.ptr 0 0, .int .i64 0]) (obH true s [] [])) ∧ (keyOk s = false → K (.tup [.nilp, .int .i64 1]) [])
 | _, _ => False
theorem s71 : Sound Tryz.prog 71 C71 := by
 refine sound_of_okF ok71 (.cons s80 (callable_of_okF ok80) .nil) ?_
 intro args hp K h
 unfold C71 at h
 split at h
 ·rename_i s
  refine ⟨by simp, [], ?_⟩
  simp (maxSteps:=9^9) only [a71, r71, C80, go_sem, Nat.reduceLeDiff, Nat.reduceSub, Nat.reduceBEq, Nat.reduceAdd]
  exact sw_intro h.1 h.2
 ·exact h.elim
def C81 : Contract := fun args hp K => match args, hp with
 | [x], [] => onL (.int .i64) 8 x fun xs => K (.own 0) [.row true 8 (.int .i64) xs]
 | _, _ => False
theorem s81 : Sound Tryz.prog 81 C81 := by
 refine sound_of_okF ok81 .nil ?_
 intro args hp K h
 unfold C81 at h
 split at h
 ·refine ⟨by simp, [], ?_⟩
  rcases h with ⟨rfl, h⟩ | ⟨p, xs, rfl, h⟩
  ·simp (maxSteps:=9^9) only [a81, r81, go_sem, Nat.reduceBEq]
   exact h
  ·simp (maxSteps:=9^9) only [a81, r81, go_sem, Nat.reduceLeDiff, Nat.reduceMul, Nat.reduceBEq]
   intro b hb
   refine sw_intro (fun h1 => ?_) (fun _ => ⟨id, fun _ => h⟩)
   rw [hb h1] at h; exact h
 ·exact h.elim
def C75 : Contract := fun args hp K => match args, hp with
 | [.agg [.str f, .int .u64 s, .int .i64 k, x]], [] => onL (.int .i64) 8 x fun xs => K (.agg [.str f, .int .u64 s, .int .i64 k, .own 0]) [.row true 8 (.int .i64) xs]
 | _, _ => False
theorem s75 : Sound Tryz.prog 75 C75 := by
 refine sound_of_okF ok75 (.cons s81 (callable_of_okF ok81) .nil) ?_
 intro args hp K h
 unfold C75 at h
 split at h
 ·refine ⟨by simp, [], ?_⟩
  rcases h with ⟨rfl, h⟩ | ⟨p, xs, rfl, h⟩
  ·simp (maxSteps:=9^9) only [a75, r75, C81, go_sem, Nat.reduceLeDiff, Nat.reduceSub, Nat.reduceLT, Nat.reduceBEq, Nat.reduceAdd]
   exact h
  ·simp (maxSteps:=9^9) only [a75, r75, C81, go_sem, Nat.reduceLeDiff, Nat.reduceSub, Nat.reduceLT, Nat.reduceBEq, Nat.reduceAdd]
   exact h
 ·exact h.elim
def C79 : Contract := fun args hp K => match args with
 | [.nilp] => hp = [] ∧ K (.bool true) []
 | [.ptr 0 0] => onOb hp fun o l m => K (.bool (decide (o = ByteArray.empty))) hp
 | _ => False
theorem s79 : Sound Tryz.prog 79 C79 := by
 refine sound_of_okF ok79 .nil ?_
 intro args hp K h
 unfold C79 at h
 split at h
 ·obtain ⟨rfl, h⟩ := h
  refine ⟨by simp, [], ?_⟩
  simp (maxSteps:=9^9) only [a79, r79, go_sem, Nat.reduceBEq]
  exact h
 ·obtain ⟨o, l, m, rfl, h⟩ := h
  refine ⟨by simp, [], ?_⟩
  unfold obH at h ⊢
  simp (maxSteps:=9^9) only [a79, r79, go_sem, Nat.reduceBEq, Nat.reduceAdd]
  rintro c rfl
  exact h
 ·exact h.elim
def C102 : Contract := fun args hp K => match args with
 | [.nilp] => hp = [] ∧ K (.str ByteArray.empty) []
 | [.ptr 0 0] => onOb hp fun o l m => K (.str o) hp
 | _ => False
theorem s102 : Sound Tryz.prog 102 C102 := by
 refine sound_of_okF ok102 .nil ?_
 intro args hp K h
 unfold C102 at h
 split at h
 ·obtain ⟨rfl, h⟩ := h
  refine ⟨by simp, [], ?_⟩
  simp (maxSteps:=9^9) only [a102, r102, go_sem, Nat.reduceBEq]
  exact h
 ·obtain ⟨o, l, m, rfl, h⟩ := h
  refine ⟨by simp, [], ?_⟩
  unfold obH at h ⊢
  simp (maxSteps:=9^9) only [a102, r102, go_sem, Nat.reduceBEq, Nat.reduceAdd]
  exact h
 ·exact h.elim
def C49 : Contract := fun args hp K => match args with
 | [.ptr 0 0, .str to] => onOb hp fun o l m => o ≠ ByteArray.empty ∧ K (.int .u64 ((lookM .str (.int .u64) m to).getD (0 : Int))) hp
 | _ => False
theorem s49 : Sound Tryz.prog 49 C49 := by
 refine sound_of_okF ok49 (.cons s79 (callable_of_okF ok79) .nil) ?_
 intro args hp K h
 unfold C49 at h
 split at h
 ·obtain ⟨o, l, m, rfl, h0, h⟩ := h
  refine ⟨by simp, [], ?_⟩
  unfold obH at h ⊢
  simp (maxSteps:=9^9) only [a49, r49, C79, go_sem, Nat.reduceLeDiff, Nat.reduceSub, Nat.reduceLT, Nat.reduceBEq, Nat.reduceAdd]
  refine sw_intro (fun h => absurd (by simpa using h) h0) (fun _ => ?_)
  rintro _ _ rfl _
  exact h
 ·exact h.elim
def C24 : Contract := fun args hp K => match args with
  | [.ptr 0 0, .str to, .int .i64 kind, x] => onOb hp fun o l m => onL (.int .i64) 8 x fun xs => o ≠ ByteArray.empty ∧ m.length < maxLen ∧ l.length ≤ 100 ∧
      (¬ (keyOk to = true ∧ xs.length ≤ 4) → K (.tup [.int .u64 0, .int .i64 1]) hp) ∧
      ((keyOk to = true ∧ xs.length ≤ 4) → (32 ≤ l.length ∨ (lookM .str (.int .u64) m to = none ∧ 64 ≤ m.length)) → K (.tup [.int .u64 0, .int .i64 6]) hp) ∧
      ((keyOk to = true ∧ xs.length ≤ 4) → ¬ (32 ≤ l.length ∨ (lookM .str (.int .u64) m to = none ∧ 64 ≤ m.length)) → ∀ s : Int, s = IntKind.u64.wrap ((lookM .str (.int .u64) m to).getD (0 : Int) + 1) →
        K (.tup [.int .u64 s, .int .i64 0]) (obH true o (l ++ [(to, o, s, kind, xs)]) (updM .str (.int .u64) m to s)))
  | _ => False
theorem s24 : Sound Tryz.prog 24 C24 := by
 refine sound_of_okF ok24 (.cons s79 (callable_of_okF ok79) (.cons s80 (callable_of_okF ok80) (.cons s81 (callable_of_okF ok81) .nil))) ?_
 intro args hp K h
 unfold C24 at h
 split at h
 ·obtain ⟨o, l, m, rfl, h⟩ := h
  refine ⟨by simp, [], ?_⟩
  rcases h with ⟨rfl, h0, hm, hl, h1, h2, h3⟩ | ⟨p, xs, rfl, h0, hm, hl, h1, h2, h3⟩
  ·unfold obH at h1 h2 h3 ⊢
   simp (maxSteps:=9^9) only [a24, r24, C79, C80, C81, go_sem, Int.reduceLT, Nat.reduceLeDiff, Nat.reduceSub, Nat.reduceMul, Nat.reduceLT, Nat.reduceBEq, Nat.reduceAdd]
   refine sw_intro (fun h => absurd (by simpa using h) h0) (fun _ => ?_)
   refine sw_intro (fun hk => ?_) (fun hk => h1 (by simp [hk]))
   rintro y b hy hb _ _ n rfl c rfl
   refine sw_intro (fun hc => h2 ⟨hk, by simp⟩ (.inl (by simp at hc; omega))) (fun hc => ?_)
   refine sw_intro (fun hb1 => ?_) (fun hb1 => ?_)
   ·rintro y2 b2 rfl _ _ _ s hs
    refine ⟨by omega, ?_⟩
    rintro y3 _ h3' _
    rw [lookM_upd_self] at h3'
    have h3' : y3 = s := h3'
    subst h3'
    refine ⟨fun _ => by omega, fun _ => h3 ⟨hk, by simp⟩ ?_ y3 hs⟩
    rintro (h | ⟨h, _⟩)
    ·simp at hc; omega
    ·rw [h] at hb; subst hb; cases hb1
   ·rintro _ m2 rfl c rfl
    refine sw_intro (fun hc2 => h2 ⟨hk, by simp⟩ (.inr ⟨?_, by simp at hc2; omega⟩)) (fun hc2 => ?_)
    ·subst hb; simpa using hb1
    ·rintro y2 b2 rfl _ _ _ s hs
     refine ⟨by omega, ?_⟩
     rintro y3 _ h3' _
     rw [lookM_upd_self] at h3'
     have h3' : y3 = s := h3'
     subst h3'
     refine ⟨fun _ => by omega, fun _ => h3 ⟨hk, by simp⟩ ?_ y3 hs⟩
     rintro (h | ⟨h, h'⟩)
     ·simp at hc; omega
     ·simp at hc2; omega
  ·unfold obH at h1 h2 h3 ⊢
   simp (maxSteps:=9^9) only [a24, r24, C79, C80, C81, go_sem, Nat.reduceLeDiff, Nat.reduceSub, Nat.reduceMul, Nat.reduceLT, Nat.reduceBEq, Nat.reduceAdd]
   refine sw_intro (fun h => absurd (by simpa using h) h0) (fun _ => ?_)
   refine sw_intro (fun hk => ?_) (fun hk => h1 (by simp [hk]))
   rintro _ _ n rfl c rfl
   refine sw_intro (fun h => h1 (fun h' => by simp at h; omega)) (fun h4 => ?_)
   have h4 : xs.length ≤ 4 := by simp at h4; omega
   rintro y b hy hb _ _ n rfl c rfl
   refine sw_intro (fun hc => h2 ⟨hk, h4⟩ (.inl (by simp at hc; omega))) (fun hc => ?_)
   refine sw_intro (fun hb1 => ?_) (fun hb1 => ?_)
   ·rintro y2 b2 rfl _ _ _ s hs
    refine ⟨by omega, ?_⟩
    rintro y3 _ h3' _
    rw [lookM_upd_self] at h3'
    have h3' : y3 = s := h3'
    subst h3'
    refine ⟨fun _ => by omega, fun _ => h3 ⟨hk, h4⟩ ?_ y3 hs⟩
    rintro (h | ⟨h, _⟩)
    ·simp at hc; omega
    ·rw [h] at hb; subst hb; cases hb1
   ·rintro _ m2 rfl c rfl
    refine sw_intro (fun hc2 => h2 ⟨hk, h4⟩ (.inr ⟨?_, by simp at hc2; omega⟩)) (fun hc2 => ?_)
    ·subst hb; simpa using hb1
    ·rintro y2 b2 rfl _ _ _ s hs
     refine ⟨by omega, ?_⟩
     rintro y3 _ h3' _
     rw [lookM_upd_self] at h3'
     have h3' : y3 = s := h3'
     subst h3'
     refine ⟨fun _ => by omega, fun _ => h3 ⟨hk, h4⟩ ?_ y3 hs⟩
     rintro (h | ⟨h, h'⟩)
     ·simp at hc; omega
     ·simp at hc2; omega
 ·exact h.elim
end Go.V
namespace Go.V
open Go.Proofs
set_option maxRecDepth 100000
set_option linter.unusedSimpArgs false
set_option linter.unnecessarySimpa false
set_option linter.unusedVariables false
def intsB (xs : List Int) : List UInt8 := xs.flatMap fun x => numB (zig x)
def letB (l : LetT.den) : List UInt8 := textB l.1 ++ numB l.2.1 ++ numB (zig l.2.2.1) ++ numB l.2.2.2.length ++ intsB l.2.2.2
theorem intsB_snoc (xs : List Int) (x : Int) : intsB (xs ++ [x]) = intsB xs ++ numB (zig x) := by simp [intsB]
theorem intsB_length (xs : List Int) : (intsB xs).length ≤ 9 * xs.length := by
 induction xs with
 | nil => simp [intsB]
 | cons x r ih =>
  have := (numB_length (zig x)).2
  simp only [intsB, List.flatMap_cons, List.length_append, List.length_cons] at ih ⊢
  omega
theorem letB_length (l : LetT.den) : (letB l).length ≤ l.1.size + 36 + 9 * l.2.2.2.length := by
 have h1 := textB_length l.1
 have h2 := (numB_length l.2.1).2
 have h3 := (numB_length (zig l.2.2.1)).2
 have h4 := (numB_length l.2.2.2.length).2
 have h5 := intsB_length l.2.2.2
 simp only [letB, List.length_append]; omega
def rdInts : Nat → Option (List UInt8) → List Int × Option (List UInt8)
 | 0, st => ([], st)
 | n + 1, st => ((rdInts n st).1 ++ [(rdInt (rdInts n st).2).1], (rdInt (rdInts n st).2).2)
def rdLet (st : Option (List UInt8)) : Option LetT.den × Option (List UInt8) :=
 let a := rdText st
 let b := rdNum a.2
 let c := rdInt b.2
 let d := rdNum c.2
 if 4 < d.1 then (none, d.2) else
  let e := rdInts d.1.toNat d.2
  if e.2 = none ∨ 40 < a.1.size then (none, e.2) else (some (a.1, b.1, c.1, e.1), e.2)
def C74 : Contract := fun args hp K => match args, hp with
 | [.agg [.str f, .int .u64 s, .int .i64 k, x]], [] => onL (.int .i64) 8 x fun xs => K (.bool (decide (f.size ≤ 40) && decide (xs.length ≤ 4))) []
 | [.agg [.str f, .int .u64 s, .int .i64 k, .own 0]], [.row false 8 (.int .i64) xs] => K (.bool (decide (f.size ≤ 40) && decide ((xs : List Int).length ≤ 4))) [.row false 8 (.int .i64) xs]
 | _, _ => False
theorem s74 : Sound Tryz.prog 74 C74 := by
 refine sound_of_okF ok74 .nil ?_
 intro args hp K h
 unfold C74 at h
 split at h
 ·refine ⟨by simp, [], ?_⟩
  rcases h with ⟨rfl, h⟩ | ⟨p, xs, rfl, h⟩
  ·simp (maxSteps:=9^9) only [a74, r74, go_sem, Int.reduceLE, Nat.reduceLeDiff, Nat.reduceSub, Nat.reduceBEq]
   rintro _ m rfl c rfl
   refine sw_intro (fun h1 => ?_) (fun h1 => ?_) <;> simp only [decide_eq_true_eq, decide_eq_false_iff_not] at h1
   ·rw [decide_eq_true (by omega)] at h; exact h
   ·rw [decide_eq_false (by omega)] at h; exact h
  ·simp (maxSteps:=9^9) only [a74, r74, go_sem, Nat.reduceLeDiff, Nat.reduceSub, Nat.reduceBEq]
   rintro _ m rfl c rfl
   refine sw_intro (fun h1 => ?_) (fun h1 => ?_) <;> simp only [decide_eq_true_eq, decide_eq_false_iff_not] at h1
   ·rw [decide_eq_true (by omega)] at h
    rintro _ _ m rfl c hc
    have : c = decide (xs.length ≤ 4) := by rw [hc]; simp; omega
    rw [this]; exact h
   ·rw [decide_eq_false (by omega)] at h; exact h
 ·rename_i xs
  refine ⟨by simp, [], ?_⟩
  simp (maxSteps:=9^9) only [a74, r74, go_sem, Nat.reduceLeDiff, Nat.reduceSub, Nat.reduceBEq]
  rintro _ m rfl c rfl
  refine sw_intro (fun h1 => ?_) (fun h1 => ?_) <;> simp only [decide_eq_true_eq, decide_eq_false_iff_not] at h1
  ·rw [decide_eq_true (by omega)] at h
   rintro _ _ m rfl c hc
   have : c = decide (xs.length ≤ 4) := by rw [hc]; simp; omega
   rw [this]; exact h
  ·rw [decide_eq_false (by omega)] at h; exact h
 ·exact h.elim
def C77 : Contract := C74
theorem s77 : Sound Tryz.prog 77 C77 := by
 refine sound_of_okF ok77 .nil ?_
 intro args hp K h
 unfold C77 C74 at h
 split at h
 ·refine ⟨by simp, [], ?_⟩
  rcases h with ⟨rfl, h⟩ | ⟨p, xs, rfl, h⟩
  ·simp (maxSteps:=9^9) only [a77, r77, go_sem, Int.reduceLE, Nat.reduceLeDiff, Nat.reduceSub, Nat.reduceBEq]
   rintro _ m rfl c rfl
   refine sw_intro (fun h1 => ?_) (fun h1 => ?_) <;> simp only [decide_eq_true_eq, decide_eq_false_iff_not] at h1
   ·rw [decide_eq_true (by omega)] at h; exact h
   ·rw [decide_eq_false (by omega)] at h; exact h
  ·simp (maxSteps:=9^9) only [a77, r77, go_sem, Nat.reduceLeDiff, Nat.reduceSub, Nat.reduceBEq]
   rintro _ m rfl c rfl
   refine sw_intro (fun h1 => ?_) (fun h1 => ?_) <;> simp only [decide_eq_true_eq, decide_eq_false_iff_not] at h1
   ·rw [decide_eq_true (by omega)] at h
    rintro _ _ m rfl c hc
    have : c = decide (xs.length ≤ 4) := by rw [hc]; simp; omega
    rw [this]; exact h
   ·rw [decide_eq_false (by omega)] at h; exact h
 ·rename_i xs
  refine ⟨by simp, [], ?_⟩
  simp (maxSteps:=9^9) only [a77, r77, go_sem, Nat.reduceLeDiff, Nat.reduceSub, Nat.reduceBEq]
  rintro _ m rfl c rfl
  refine sw_intro (fun h1 => ?_) (fun h1 => ?_) <;> simp only [decide_eq_true_eq, decide_eq_false_iff_not] at h1
  ·rw [decide_eq_true (by omega)] at h
   rintro _ _ m rfl c hc
   have : c = decide (xs.length ≤ 4) := by rw [hc]; simp; omega
   rw [this]; exact h
  ·rw [decide_eq_false (by omega)] at h; exact h
 ·exact h.elim
def C106 : Contract := fun args hp K => match args with
 | [.ptr 0 0, .agg [.str f, .int .u64 s, .int .i64 k, .sl p 8 (.int .i64) xs]] => onWr hp fun bs => f.size ≤ 1000000 ∧ xs.length ≤ 1000000 ∧ bs.length ≤ 1000000000000 ∧ (in64 k ∧ inI xs → K (.tup []) (wrH true (bs ++ letB (f, s, k, xs))))
 | _ => False
def L106 (p : Bool) (bs : List UInt8) (xs : List Int) : LoopAnn := { G := Nat, I := fun i => ⟨[(0, .ptr 0 0), (25, .sl p 8 (.int .i64) xs), (26, .int .i64 xs.length), (27, .int .i64 i)], [.struct [.own 1], .row true 1 .byte (bs ++ intsB (xs.take i))]⟩, R := fun _ i => i ≤ xs.length ∧ inI (xs.take i), μ := fun i => xs.length - i }
theorem L106_I {p bs xs} (i : Nat) : (L106 p bs xs).I i = ⟨[(0, .ptr 0 0), (25, .sl p 8 (.int .i64) xs), (26, .int .i64 xs.length), (27, .int .i64 i)], [.struct [.own 1], .row true 1 .byte (bs ++ intsB (xs.take i))]⟩ := rfl
theorem s106 : Sound Tryz.prog 106 C106 := by
 refine sound_of_okF ok106 (.cons s62 (callable_of_okF ok62) (.cons s59 (callable_of_okF ok59) (.cons s108 (callable_of_okF ok108) .nil))) ?_
 intro args hp K h
 unfold C106 at h
 split at h
 ·rename_i f s k p xs
  obtain ⟨bs, rfl, h1, h2, h3, h⟩ := h
  refine ⟨by simp, [(1, L106 p (bs ++ textB f ++ numB s ++ numB (zig k) ++ numB (xs.length : Int)) xs)], ?_⟩
  unfold wrH at h ⊢
  simp (maxSteps:=9^9) only [a106, r106, C62, C59, C108, wrH, go_sem, Nat.reduceLeDiff, Nat.reduceSub, Nat.reduceLT, Nat.reduceBEq, Nat.reduceAdd]
  have b1 := textB_length f
  have b2 := (numB_length s).2
  have b3 := (numB_length (zig k)).2
  have b4 := (numB_length (xs.length : Int)).2
  have hx : ∀ m : Nat, (bs ++ textB f ++ numB s ++ numB (zig k) ++ numB (xs.length : Int) ++ intsB (xs.take m)).length ≤ 70368744177664 := by
   intro m
   have b5 := intsB_length (xs.take m)
   have : (xs.take m).length ≤ xs.length := List.length_take_le' _ _
   simp only [List.length_append]; omega
  have hx0 := hx 0
  simp only [List.length_append] at hx0
  refine ⟨by omega, by simp only [List.length_append]; omega, by simp only [List.length_append]; omega, ?_⟩
  rintro hk64 _ _ m rfl _ m1 hm1
  rw [wu64 (by omega)] at hm1
  subst hm1
  refine ⟨by simp only [List.length_append]; omega, ?_⟩
  rintro _ _ m rfl
  refine loop_intro (A := L106 p (bs ++ textB f ++ numB s ++ numB (zig k) ++ numB (xs.length : Int)) xs) (0 : Nat) ?_ ⟨Nat.zero_le _, fun x hx => by simp at hx⟩ ?_
  ·simp (maxSteps:=9^9) only [L106_I, go_sem, Nat.reduceBEq]
   simp [intsB]
  ·intro (i : Nat) (hi : i ≤ xs.length ∧ inI (xs.take i))
   obtain ⟨hi, hin⟩ := hi
   simp (maxSteps:=9^9) only [L106_I, C108, wrH, go_sem, Nat.reduceLT, Nat.reduceBEq, Nat.reduceAdd]
   rintro c rfl
   refine sw_intro (fun hc => ?_) (fun hc => ?_) <;> simp only [decide_eq_true_eq, decide_eq_false_iff_not] at hc
   ·refine nd_intro hc ⟨hx i, ?_⟩
    rintro hx64 _ _ m hm
    have := maxLen_val
    rw [w64 (by omega)] at hm
    subst hm
    refine lpE_intro (A := L106 p (bs ++ textB f ++ numB s ++ numB (zig k) ++ numB (xs.length : Int)) xs) (i + 1 : Nat) ?_ ⟨hc, fun x hx => ?_⟩ (by show xs.length - (i + 1) < xs.length - i; omega)
    rotate_left
    ·rw [← take_elt hc] at hx
     rcases List.mem_append.1 hx with hx | hx
     ·exact hin x hx
     ·simp only [List.mem_singleton] at hx
      subst hx
      exact hx64
    simp (maxSteps:=9^9) only [L106_I, go_sem, Nat.reduceBEq]
    rw [← take_elt hc, intsB_snoc, List.append_assoc]
    rfl
   ·have : i = xs.length := by omega
    subst this
    rw [List.take_length] at hin ⊢
    have e : bs ++ textB f ++ numB s ++ numB (zig k) ++ numB (xs.length : Int) ++ intsB xs = bs ++ letB (f, s, k, xs) := by simp [letB]
    rw [e]
    exact h ⟨hk64, hin⟩
 ·exact h.elim
def C97 : Contract := fun args hp K => match args, hp with
 | [.agg [.str f, .int .u64 s, .int .i64 k, .sl p 8 (.int .i64) xs]], [] => f.size ≤ 40 ∧ (xs : List Int).length ≤ 4 ∧ (in64 k ∧ inI xs → K (.tup [.own 0, .int .i64 0]) [.row true 1 .byte (letB (f, s, k, xs))])
 | _, _ => False
theorem s97 : Sound Tryz.prog 97 C97 := by
 refine sound_of_okF ok97 (.cons s74 (callable_of_okF ok74) (.cons s58 (callable_of_okF ok58) (.cons s106 (callable_of_okF ok106) (.cons s63 (callable_of_okF ok63) .nil)))) ?_
 intro args hp K h
 unfold C97 at h
 split at h
 ·rename_i f s k p xs
  obtain ⟨h1, h2, h⟩ := h
  refine ⟨by simp, [], ?_⟩
  simp (maxSteps:=9^9) only [a97, r97, C74, C58, C106, C63, wrH, go_sem, Nat.reduceLeDiff, Nat.reduceSub, Nat.reduceLT, Nat.reduceBEq, Nat.reduceAdd]
  rw [decide_eq_true h1, decide_eq_true h2]
  exact ⟨by omega, by omega, h⟩
 ·exact h.elim
theorem rdInts_length (n : Nat) (st : Option (List UInt8)) : (rdInts n st).1.length = n := by
 induction n with
 | zero => rfl
 | succ n ih => simp [rdInts, ih]
def letK (r : Option LetT.den) (b : Bool) (st : SB) (K : SV → List SB → Prop) : Prop :=
 (r = none → K (.tup [.agg [.str ByteArray.empty, .int .u64 0, .int .i64 0, .nils], .bool false]) [st]) ∧
 (∀ l, r = some l → K (.tup [.agg [.str l.1, .int .u64 l.2.1, .int .i64 l.2.2.1, .own 1], .bool true]) [st, .row b 8 (.int .i64) l.2.2.2])
def C112 : Contract := fun args hp K => match args with
 | [.ptr 0 0] => onRd hp fun st => letK (rdLet st).1 true (rdH (rdLet st).2) K
 | _ => False
def L112 (f : ByteArray) (s k n : Int) (st : Option (List UInt8)) : LoopAnn := cntA (fun i => ⟨[(0, .ptr 0 0), (2, .ptr 1 0), (19, .int .u64 n), (20, .int .u64 i)], [rdH (rdInts i st).2, .struct [.str f, .int .u64 s, .int .i64 k, .own 2], .row true 8 (.int .i64) (rdInts i st).1]⟩) n.toNat
theorem s112 : Sound Tryz.prog 112 C112 := by
 refine sound_of_okF ok112 (.cons s67 (callable_of_okF ok67) (.cons s65 (callable_of_okF ok65) (.cons s110 (callable_of_okF ok110) (.cons s93 (callable_of_okF ok93) (.cons s74 (callable_of_okF ok74) .nil))))) ?_
 intro args hp K h
 unfold C112 at h
 split at h
 ·obtain ⟨st, rfl, h⟩ := h
  refine ⟨by simp, [(1, L112 (rdText st).1 (rdNum (rdText st).2).1 (rdInt (rdNum (rdText st).2).2).1 (rdNum (rdInt (rdNum (rdText st).2).2).2).1 (rdNum (rdInt (rdNum (rdText st).2).2).2).2)], ?_⟩
  unfold rdH
  simp (maxSteps:=9^9) only [a112, r112, C67, C65, C110, rdH, go_sem, Nat.reduceLeDiff, Nat.reduceSub, Nat.reduceBEq, Nat.reduceAdd]
  intro _
  unfold rdLet at h
  simp only at h
  have hr0 := rdNum_in (rdInt (rdNum (rdText st).2).2).2
  generalize rdText st = a at *
  generalize rdNum a.2 = b at *
  generalize rdInt b.2 = c at *
  generalize rdNum c.2 = d at *
  rintro cc rfl
  refine sw_intro (fun hc => ?_) (fun hc => ?_) <;> simp only [decide_eq_true_eq, decide_eq_false_iff_not] at hc
  ·rw [if_pos hc] at h
   exact h.1 rfl
  ·rw [if_neg hc] at h
   refine loop_intro (A := L112 a.1 b.1 c.1 d.1 d.2) (0 : Nat) ?_ (Nat.zero_le _) ?_
   ·simp (maxSteps:=9^9) only [L112, cntA_I, rdH, go_sem, Nat.reduceBEq, Nat.reduceAdd]
    rfl
   ·intro (i : Nat) (hi : i ≤ d.1.toNat)
    simp (maxSteps:=9^9) only [L112, cntA_I, C110, C93, C74, rdH, go_sem, Nat.reduceLeDiff, Nat.reduceSub, Nat.reduceMul, Nat.reduceBEq, Nat.reduceAdd]
    have hlen := rdInts_length i d.2
    rintro cc rfl
    refine sw_intro (fun hc2 => ?_) (fun hc2 => ?_) <;> simp only [decide_eq_true_eq, decide_eq_false_iff_not] at hc2
    ·refine ⟨fun _ => by omega, ?_⟩
     rintro _ _ _ m hm
     rw [wu64 (by omega)] at hm
     subst hm
     exact cntA_next (by omega) (by simp (maxSteps:=9^9) only [go_sem, Nat.reduceBEq, Nat.reduceAdd]; rfl)
    ·have hi2 : i = d.1.toNat := by omega
     subst hi2
     generalize rdInts d.1.toNat d.2 = e at *
     refine sw_intro (fun hb => ?_) (fun hb => ?_)
     ·rw [if_pos (.inl (by simpa using hb))] at h
      exact h.1 rfl
     ·have hb' : ¬ e.2 = none := by intro h0; rw [h0] at hb; cases hb
      refine sw_intro (fun hb2 => ?_) (fun hb2 => ?_)
      ·simp only [Bool.and_eq_true, decide_eq_true_eq] at hb2
       rw [if_neg (by rintro (h | h); exact hb' h; omega)] at h
       exact h.2 _ rfl
      ·have hs : 40 < a.1.size := by
        simp only [Bool.and_eq_false_iff, decide_eq_false_iff_not] at hb2; omega
       rw [if_pos (.inr hs)] at h
       exact h.1 rfl
 ·exact h.elim
def decL (bs : List UInt8) : Option LetT.den := if (rdLet (some bs)).2 = some [] then (rdLet (some bs)).1 else none
def decK (n : Nat) (pre : List SB) (r : Option LetT.den) (K : SV → List SB → Prop) : Prop :=
 (r = none → K (.tup [.agg [.str ByteArray.empty, .int .u64 0, .int .i64 0, .nils], .int .i64 2]) pre) ∧
 (∀ l, r = some l → K (.tup [.agg [.str l.1, .int .u64 l.2.1, .int .i64 l.2.2.1, .own n], .int .i64 0]) (pre ++ [.row true 8 (.int .i64) l.2.2.2]))
def C94 : Contract := fun args hp K => match args, hp with
 | [.sl p 1 .byte bs], [] => decK 0 [] (decL bs) K
 | _, _ => False
theorem s94 : Sound Tryz.prog 94 C94 := by
 refine sound_of_okF ok94 (.cons s64 (callable_of_okF ok64) (.cons s112 (callable_of_okF ok112) (.cons s70 (callable_of_okF ok70) .nil))) ?_
 intro args hp K h
 unfold C94 at h
 split at h
 ·rename_i p bs
  refine ⟨by simp, [], ?_⟩
  simp (maxSteps:=9^9) only [a94, r94, C64, C112, C70, rdH, letK, go_sem, Nat.reduceLeDiff, Nat.reduceSub, Nat.reduceLT, Nat.reduceBEq, Nat.reduceAdd]
  unfold decK decL at h
  refine ⟨fun h0 => h.1 (by rw [h0]; split <;> rfl), fun l hl => sw_intro (fun h1 => ?_) (fun h1 => ?_)⟩
  ·exact h.2 l (by rw [if_pos (by simpa using h1)]; exact hl)
  ·exact h.1 (by rw [if_neg (by simpa using h1)])
 ·exact h.elim
end Go.V
namespace Go.V
set_option maxRecDepth 100000
set_option linter.unusedSimpArgs false
set_option linter.unnecessarySimpa false
set_option linter.unusedVariables false
theorem beB_succ (k n : Nat) : beB (k + 1) n = UInt8.ofNat (n / 256 ^ k) :: beB k n := by
 unfold beB
 rw [List.range_succ_eq_map, List.map_cons, List.map_map]
 congr 1
 apply List.map_congr_left
 intro j hj
 simp only [Function.comp]
 congr 3
 omega
theorem beN_beB' (n : Nat) : ∀ (k a : Nat), (beB k n).foldl (fun a b => a * 256 + b.toNat) a = a * 256 ^ k + n % 256 ^ k
 | 0, a => by simp [beB, Nat.mod_one]
 | k + 1, a => by
  rw [beB_succ, List.foldl_cons, beN_beB' n k]
  have h1 : (UInt8.ofNat (n / 256 ^ k)).toNat = n / 256 ^ k % 256 := by simp
  rw [h1, Nat.pow_succ, Nat.mod_mul, Nat.add_mul, Nat.mul_assoc, Nat.mul_comm 256 (256 ^ k), Nat.mul_comm (n / 256 ^ k % 256)]
  omega
theorem beN_beB {n k : Nat} (h : n < 256 ^ k) : beN (beB k n) = n := by
 have := beN_beB' n k 0
 rw [Nat.zero_mul, Nat.zero_add, Nat.mod_eq_of_lt h] at this
 exact this
theorem klen_hiN {n : Nat} (h : n ≤ 18446744073709551615) : n < 256 ^ klen n := by
 have := klen_hi (n := (n : Int)) (by omega)
 rw [Int.toNat_natCast] at this
 have e : ((256 : Int) ^ klen n) = ((256 ^ klen n : Nat) : Int) := by simp
 rw [e] at this
 omega
theorem klen_loN {n : Nat} (h : 256 ≤ n) : 256 ^ (klen n - 1) ≤ n := by
 have h2 : 2 ≤ klen n := by unfold klen; (repeat' split) <;> omega
 have := klen_lo (n := (n : Int)) (by omega) (klen n - 2) (by rw [Int.toNat_natCast]; omega)
 have e : ((256 : Int) ^ (klen n - 2 + 1)) = ((256 ^ (klen n - 1) : Nat) : Int) := by rw [show klen n - 2 + 1 = klen n - 1 by omega]; simp
 rw [e] at this
 omega
theorem numR_numB {n : Int} (h : 0 ≤ n ∧ n ≤ 18446744073709551615) (r : List UInt8) : numR (numB n ++ r) = some (n, r) := by
 obtain ⟨a, rfl⟩ := Int.eq_ofNat_of_zero_le h.1
 unfold numB
 by_cases h1 : (a : Int) < 248
 ·rw [if_pos h1, Int.toNat_natCast]
  simp only [List.cons_append, List.nil_append, numR]
  have e : (UInt8.ofNat a).toNat = a := by simp; omega
  rw [e, if_pos (by omega)]
 ·rw [if_neg h1, Int.toNat_natCast]
  have hk := klen_pos a
  simp only [List.cons_append, numR]
  have e : (UInt8.ofNat (247 + klen a)).toNat = 247 + klen a := by simp; omega
  have e2 : 247 + klen a - 247 = klen a := by omega
  have hl : (beB (klen a) a).length = klen a := beB_length _ _
  rw [e, e2, if_neg (by omega), if_neg (by rw [List.length_append, hl]; omega), List.take_append_of_le_length (by omega), List.take_of_length_le (by omega), beN_beB (klen_hiN (by omega)), List.drop_append_of_le_length (by omega), List.drop_of_length_le (by omega)]
  have hh : (beB (klen a) a ++ r).headD 0 ≠ 0 := by
   obtain ⟨k, hk2⟩ : ∃ k, klen a = k + 1 := ⟨klen a - 1, by omega⟩
   have hlo : 256 ^ k ≤ a := by
    by_cases h9 : 256 ≤ a
    ·have := klen_loN h9; rw [hk2] at this; exact this
    ·have : klen a = 1 := by unfold klen; rw [if_pos (by omega)]
     obtain rfl : k = 0 := by omega
     simp; omega
   have hhi := klen_hiN (n := a) (by omega)
   rw [hk2, Nat.pow_succ] at hhi
   rw [hk2, beB_succ]
   show UInt8.ofNat (a / 256 ^ k) ≠ 0
   intro h9
   have h10 : (UInt8.ofNat (a / 256 ^ k)).toNat = 0 := by rw [h9]; rfl
   have h11 : a / 256 ^ k % 256 = 0 := by simpa using h10
   have h12 : a / 256 ^ k < 256 := (Nat.div_lt_iff_lt_mul (Nat.pow_pos (by decide))).2 (by rw [Nat.mul_comm]; exact hhi)
   have h13 : 1 ≤ a / 256 ^ k := (Nat.one_le_div_iff (Nat.pow_pos (by decide))).2 hlo
   omega
  rw [if_neg (fun h9 => h9.elim (fun h9 => by omega) (fun h9 => hh h9))]
  rfl
theorem rdNum_numB {n : Int} (h : 0 ≤ n ∧ n ≤ 18446744073709551615) (r : List UInt8) : rdNum (some (numB n ++ r)) = (n, some r) := by
 simp only [rdNum, Option.bind_some, numR_numB h]
theorem toList_toArrayB (s : ByteArray) : (⟨s.data.toList.toArray⟩ : ByteArray) = s := by cases s; simp
theorem szB (s : ByteArray) : s.data.toList.length = s.size := by rw [Array.length_toList]; rfl
theorem rdText_textB {s : ByteArray} (h : s.size ≤ 1000000000) (r : List UInt8) : rdText (some (textB s ++ r)) = (s, some r) := by
 have e : rdNum (some (textB s ++ r)) = ((s.size : Int), some (s.data.toList ++ r)) := by
  unfold textB
  rw [List.append_assoc, rdNum_numB (by omega)]
 have hl := szB s
 unfold rdText
 rw [e]
 simp only [Int.toNat_natCast]
 rw [if_neg (by rw [List.length_append]; omega), List.take_append_of_le_length (by omega), List.take_of_length_le (by omega), List.drop_append_of_le_length (by omega), List.drop_of_length_le (by omega), toList_toArrayB]
 rfl
theorem unz_zig (n : Int) : unz (zig n) = n := by unfold unz zig; split <;> split <;> omega
theorem zig_in {n : Int} (h : -9223372036854775808 ≤ n ∧ n ≤ 9223372036854775807) : 0 ≤ zig n ∧ zig n ≤ 18446744073709551615 := by unfold zig; split <;> omega
theorem rdInt_zig {n : Int} (h : -9223372036854775808 ≤ n ∧ n ≤ 9223372036854775807) (r : List UInt8) : rdInt (some (numB (zig n) ++ r)) = (n, some r) := by
 unfold rdInt
 rw [rdNum_numB (zig_in h), unz_zig]
theorem rdInts_intsB : ∀ (n : Nat) (xs : List Int), n ≤ xs.length → inI xs → ∀ r, rdInts n (some (intsB xs ++ r)) = (xs.take n, some (intsB (xs.drop n) ++ r))
 | 0, xs, _, _, r => by simp [rdInts]
 | n + 1, xs, hn, hi, r => by
  have ih := rdInts_intsB n xs (by omega) hi r
  have hlt : n < xs.length := by omega
  rw [rdInts, ih]
  have hd : xs.drop n = xs[n] :: xs.drop (n + 1) := List.drop_eq_getElem_cons hlt
  have e : intsB (xs.drop n) = numB (zig xs[n]) ++ intsB (xs.drop (n + 1)) := by rw [hd]; simp only [intsB, List.flatMap_cons]
  simp only [e, List.append_assoc]
  rw [rdInt_zig (hi _ (List.getElem_mem hlt)), List.take_append_getElem hlt]
def okLet (l : LetT.den) : Prop := l.1.size ≤ 40 ∧ l.2.2.2.length ≤ 4 ∧ (0 ≤ l.2.1 ∧ l.2.1 ≤ 18446744073709551615) ∧ (-9223372036854775808 ≤ l.2.2.1 ∧ l.2.2.1 ≤ 9223372036854775807) ∧ inI l.2.2.2
theorem rdLet_letB {l : LetT.den} (h : okLet l) (r : List UInt8) : rdLet (some (letB l ++ r)) = (some l, some r) := by
 obtain ⟨h1, h2, h3, h4, h5⟩ := h
 unfold rdLet letB
 simp only [List.append_assoc]
 rw [rdText_textB (by omega), rdNum_numB h3]
 simp only
 rw [rdInt_zig h4]
 simp only
 rw [rdNum_numB (by omega)]
 simp only
 rw [if_neg (by omega), Int.toNat_natCast, rdInts_intsB _ _ (Nat.le_refl _) h5, List.take_length, List.drop_length]
 simp only [intsB, List.flatMap_nil, List.nil_append]
 rw [if_neg (fun h9 => h9.elim (fun h9 => by cases h9) (fun h9 => by omega))]
theorem decL_letB {l : LetT.den} (h : okLet l) : decL (letB l) = some l := by
 have := rdLet_letB h []
 rw [List.append_nil] at this
 unfold decL
 rw [this]
 rfl
end Go.V
