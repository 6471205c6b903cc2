/- A part of the proof layer, or functions of the given program in it: contracts and their proofs. -/
import Derived.Test.YtbcmjkfdeikkhaaGreatA20
namespace Go.V
open Go.Proofs
set_option maxRecDepth 100000
set_option linter.unusedSimpArgs false
set_option linter.unnecessarySimpa false
set_option linter.unusedVariables false
def C62 : Contract := fun args hp K => match args with
  | [.ptr 0 0, .str s] => onWr hp fun bs => bs.length + s.size ≤ 70368744177664 ∧ K (.tup []) (wrH true (bs ++ textB s))
  | _ => False
theorem s62 : Sound Tryz.prog 62 C62 := by
  refine sound_of_okF ok62 (Γ := [(59, C59)]) (.cons s59 (callable_of_okF ok59) .nil) ?_
  intro args hp K h
  unfold C62 at h
  split at h
  · rename_i s
    obtain ⟨bs, rfl, hb, h⟩ := h
    refine ⟨by simp, [], ?_⟩
    unfold wrH at h ⊢
    simp (maxSteps := 2000000) only [a62, r62, C59, wrH, go_sem, eq_self, and_self, Int.natCast_pos, Int.le_refl, Nat.le_refl, Int.natCast_nonneg, Int.ofNat_lt, Int.ofNat_le, Int.reduceLT, Int.reduceLE, Int.reduceEq, Int.reduceNe, Int.reduceAdd, Int.reduceSub, Int.reduceMul, Int.reduceToNat, Int.reduceNeg, Nat.reduceEqDiff, Nat.reduceLeDiff, Nat.reduceSub, Nat.reduceMul, Nat.reduceLT, Nat.reduceBEq, Nat.reduceAdd]
    rintro _ m rfl _ m1 hm1
    rw [wu64 (by omega)] at hm1
    subst hm1
    have hl := (numB_length s.size).2
    have hs : s.data.toList.length = s.size := by rw [Array.length_toList]; rfl
    refine ⟨by omega, fun _ _ => ?_, fun _ => ?_⟩
    · rw [hs, List.length_append]; omega
    · rw [List.append_assoc]; exact h
  · exact h.elim

theorem u64wrap (x : Int) : IntKind.u64.wrap x = x % 18446744073709551616 := by
  simp [IntKind.wrap, IntKind.signed, IntKind.bits]
theorem xor_zero {k : IntKind} {a : Int} (h : inR k a) : bitsI .xor k a 0 = a := by
  have h0 : BitVec.ofInt k.bits 0 = 0#k.bits := by simp
  have e : bitsI .xor k a 0 = k.wrap ((BitVec.ofInt k.bits a).toNat : Int) := by simp [bitsI]
  rw [e]
  have := wrap_in h
  rw [BitVec.toNat_ofInt]
  cases k <;> simp [IntKind.wrap, IntKind.signed, IntKind.bits] at this ⊢ <;> omega
theorem xor_ones {a : Int} (h : 0 ≤ a ∧ a ≤ 18446744073709551615) : bitsI .xor .u64 a 18446744073709551615 = 18446744073709551615 - a := by
  have h0 : BitVec.ofInt 64 18446744073709551615 = BitVec.allOnes 64 := by decide
  have e : bitsI .xor .u64 a 18446744073709551615 = IntKind.u64.wrap ((~~~ (BitVec.ofInt 64 a)).toNat : Int) := by
    show IntKind.u64.wrap ((BitVec.ofInt 64 a ^^^ BitVec.ofInt 64 18446744073709551615).toNat : Int) = _
    rw [h0, BitVec.xor_allOnes]
  rw [e, BitVec.toNat_not, BitVec.toNat_ofInt, u64wrap]
  omega
theorem zig_bits {n : Int} (hn : -9223372036854775808 ≤ n ∧ n ≤ 9223372036854775807) :
    bitsI .xor .u64 (IntKind.u64.wrap (IntKind.u64.wrap n * 2 ^ min 1 64)) (IntKind.u64.wrap (n.fdiv (2 ^ min 63 64))) = zig n := by
  have e1 : (2 : Int) ^ min 1 64 = 2 := rfl
  have e2 : (2 : Int) ^ min 63 64 = 9223372036854775808 := rfl
  rw [e1, e2, u64wrap, u64wrap, u64wrap, Int.fdiv_eq_ediv_of_nonneg _ (by decide)]
  unfold zig
  split
  · have h1 : n / 9223372036854775808 % 18446744073709551616 = 0 := by omega
    have h2 : n % 18446744073709551616 * 2 % 18446744073709551616 = 2 * n := by omega
    rw [h1, h2]
    exact xor_zero (inR_u64.2 (by omega))
  · have h1 : n / 9223372036854775808 % 18446744073709551616 = 18446744073709551615 := by omega
    have h2 : n % 18446744073709551616 * 2 % 18446744073709551616 = 2 * n + 18446744073709551616 := by omega
    rw [h1, h2, xor_ones (by omega)]
    omega

def in64 (n : Int) : Prop := -9223372036854775808 ≤ n ∧ n ≤ 9223372036854775807
def inI (xs : List Int) : Prop := ∀ x ∈ xs, -9223372036854775808 ≤ x ∧ x ≤ 9223372036854775807
def C108 : Contract := fun args hp K => match args with
  | [.ptr 0 0, .int .i64 n] => onWr hp fun bs => bs.length ≤ 70368744177664 ∧ (in64 n → K (.tup []) (wrH true (bs ++ numB (zig n))))
  | _ => False
theorem s108 : Sound Tryz.prog 108 C108 := by
  refine sound_of_okF ok108 (Γ := [(59, C59)]) (.cons s59 (callable_of_okF ok59) .nil) ?_
  intro args hp K h
  unfold C108 at h
  split at h
  · rename_i n
    obtain ⟨bs, rfl, hb, h⟩ := h
    refine ⟨by simp, [], ?_⟩
    unfold wrH at h ⊢
    simp (maxSteps := 2000000) only [a108, r108, C59, wrH, go_sem, eq_self, and_self, Int.natCast_pos, Int.le_refl, Nat.le_refl, Int.natCast_nonneg, Int.ofNat_lt, Int.ofNat_le, Int.reduceLT, Int.reduceLE, Int.reduceEq, Int.reduceNe, Int.reduceAdd, Int.reduceSub, Int.reduceMul, Int.reduceToNat, Int.reduceNeg, Nat.reduceEqDiff, Nat.reduceLeDiff, Nat.reduceSub, Nat.reduceMul, Nat.reduceLT, Nat.reduceBEq, Nat.reduceAdd]
    rintro hn m rfl _ _ m1 hm1 _ _ m2 hm2 _ m3 hm3 _ _ m4 hm4
    rw [inR_i64] at hn
    have e : m4 = zig n := by
      rw [hm4, hm3, hm2, hm1]; exact zig_bits hn
    subst e
    exact ⟨hb, h hn⟩
  · exact h.elim

/-! ### reading -/
def numR (b : List UInt8) : Option (Int × List UInt8) :=
  match b with
  | [] => none
  | x :: r => if x.toNat < 248 then some (x.toNat, r) else
    if r.length < x.toNat - 247 then none else
    if beN (r.take (x.toNat - 247)) < 248 ∨ r.headD 0 = 0 then none else some (beN (r.take (x.toNat - 247)), r.drop (x.toNat - 247))
def rdNum (st : Option (List UInt8)) : Int × Option (List UInt8) :=
  match st.bind numR with
  | some x => (x.1, some x.2)
  | none => (0, none)
def rdText (st : Option (List UInt8)) : ByteArray × Option (List UInt8) :=
  match (rdNum st).2 with
  | none => (ByteArray.empty, none)
  | some r => if (r.length : Int) < (rdNum st).1 then (ByteArray.empty, none) else (⟨(r.take (rdNum st).1.toNat).toArray⟩, some (r.drop (rdNum st).1.toNat))
def rdInt (st : Option (List UInt8)) : Int × Option (List UInt8) := (unz (rdNum st).1, (rdNum st).2)

def rdH (st : Option (List UInt8)) : SB := .struct [.sl true 1 .byte (st.getD []), .bool st.isNone]
def onRd (hp : List SB) (k : Option (List UInt8) → Prop) : Prop := ∃ st, hp = [rdH st] ∧ k st
@[go_sem] theorem onRd_eq {st : Option (List UInt8)} {k} : onRd [.struct [.sl true 1 .byte (no_index (Option.getD st ([] : List UInt8))), .bool (Option.isNone st)]] k = k st := by
  apply propext; constructor
  · rintro ⟨st', h, hk⟩
    unfold rdH at h
    have : st = st' := by
      simp at h
      cases st <;> cases st' <;> simp_all
    subst this
    exact hk
  · exact fun h => ⟨st, rfl, h⟩
@[go_sem] theorem onRd_eq2 {bs k} : onRd [.struct [.sl true 1 .byte (no_index bs), .bool false]] k = k (some bs) := onRd_eq (st := some bs)

def C109 : Contract := fun args hp K => match args, hp with
  | [.ptr 0 0], [.struct [.sl p 1 .byte bs, .bool b]] => K (.tup []) [.struct [.nils, .bool true]]
  | _, _ => False
theorem s109 : Sound Tryz.prog 109 C109 := by
  refine sound_of_okF ok109 (Γ := []) .nil ?_
  intro args hp K h
  unfold C109 at h
  split at h
  · refine ⟨by simp, [], ?_⟩
    simp (maxSteps := 2000000) only [a109, r109, go_sem, eq_self, and_self, Int.natCast_pos, Int.le_refl, Nat.le_refl, Int.natCast_nonneg, Int.ofNat_lt, Int.ofNat_le, Int.reduceLT, Int.reduceLE, Int.reduceEq, Int.reduceNe, Int.reduceAdd, Int.reduceSub, Int.reduceMul, Int.reduceToNat, Int.reduceNeg, Nat.reduceEqDiff, Nat.reduceLeDiff, Nat.reduceSub, Nat.reduceMul, Nat.reduceLT, Nat.reduceBEq, Nat.reduceAdd]
    exact h
  · exact h.elim
def C64 : Contract := fun args hp K => match args, hp with
  | [x], [] => onL .byte 1 x fun xs => K (.ptr 0 0) [rdH (some xs)]
  | _, _ => False
theorem s64 : Sound Tryz.prog 64 C64 := by
  refine sound_of_okF ok64 (Γ := []) .nil ?_
  intro args hp K h
  unfold C64 at h
  split at h
  · refine ⟨by simp, [], ?_⟩
    rcases h with ⟨rfl, h⟩ | ⟨p, xs, rfl, h⟩
    · simp (maxSteps := 2000000) only [a64, r64, go_sem, eq_self, and_self, Int.natCast_pos, Int.le_refl, Nat.le_refl, Int.natCast_nonneg, Int.ofNat_lt, Int.ofNat_le, Int.reduceLT, Int.reduceLE, Int.reduceEq, Int.reduceNe, Int.reduceAdd, Int.reduceSub, Int.reduceMul, Int.reduceToNat, Int.reduceNeg, Nat.reduceEqDiff, Nat.reduceLeDiff, Nat.reduceSub, Nat.reduceMul, Nat.reduceLT, Nat.reduceBEq, Nat.reduceAdd]
      exact h
    · simp (maxSteps := 2000000) only [a64, r64, go_sem, eq_self, and_self, Int.natCast_pos, Int.le_refl, Nat.le_refl, Int.natCast_nonneg, Int.ofNat_lt, Int.ofNat_le, Int.reduceLT, Int.reduceLE, Int.reduceEq, Int.reduceNe, Int.reduceAdd, Int.reduceSub, Int.reduceMul, Int.reduceToNat, Int.reduceNeg, Nat.reduceEqDiff, Nat.reduceLeDiff, Nat.reduceSub, Nat.reduceMul, Nat.reduceLT, Nat.reduceBEq, Nat.reduceAdd]
      exact ⟨id, fun _ => h⟩
  · exact h.elim

def C93 : Contract := fun args hp K => match args with
  | [.ptr 0 0] => onRd hp fun st => K (.bool st.isNone) [rdH st]
  | _ => False
theorem s93 : Sound Tryz.prog 93 C93 := by
  refine sound_of_okF ok93 (Γ := []) .nil ?_
  intro args hp K h
  unfold C93 at h
  split at h
  · obtain ⟨st, rfl, h⟩ := h
    refine ⟨by simp, [], ?_⟩
    unfold rdH at h ⊢
    simp (maxSteps := 2000000) only [a93, r93, go_sem, eq_self, and_self, Int.natCast_pos, Int.le_refl, Nat.le_refl, Int.natCast_nonneg, Int.ofNat_lt, Int.ofNat_le, Int.reduceLT, Int.reduceLE, Int.reduceEq, Int.reduceNe, Int.reduceAdd, Int.reduceSub, Int.reduceMul, Int.reduceToNat, Int.reduceNeg, Nat.reduceEqDiff, Nat.reduceLeDiff, Nat.reduceSub, Nat.reduceMul, Nat.reduceLT, Nat.reduceBEq, Nat.reduceAdd]
    exact h
  · exact h.elim
def C70 : Contract := fun args hp K => match args with
  | [.ptr 0 0] => onRd hp fun st => K (.bool (decide (st = some []))) [rdH st]
  | _ => False
theorem s70 : Sound Tryz.prog 70 C70 := by
  refine sound_of_okF ok70 (Γ := []) .nil ?_
  intro args hp K h
  unfold C70 at h
  split at h
  · obtain ⟨st, rfl, h⟩ := h
    refine ⟨by simp, [], ?_⟩
    unfold rdH at h ⊢
    simp (maxSteps := 2000000) only [a70, r70, go_sem, eq_self, and_self, Int.natCast_pos, Int.le_refl, Nat.le_refl, Int.natCast_nonneg, Int.ofNat_lt, Int.ofNat_le, Int.reduceLT, Int.reduceLE, Int.reduceEq, Int.reduceNe, Int.reduceAdd, Int.reduceSub, Int.reduceMul, Int.reduceToNat, Int.reduceNeg, Nat.reduceEqDiff, Nat.reduceLeDiff, Nat.reduceSub, Nat.reduceMul, Nat.reduceLT, Nat.reduceBEq, Nat.reduceAdd]
    refine sw_intro (fun h1 => ?_) (fun h1 => ?_)
    · cases st with
      | none => exact h
      | some bs => cases h1
    · cases st with
      | none => cases h1
      | some bs =>
        rintro _ _ m rfl c hc
        have e : c = decide (some bs = some ([] : List UInt8)) := by
          rw [hc]; cases bs <;> simp
          omega
        rw [e]; exact h
  · exact h.elim

def C65 : Contract := fun args hp K => match args with
  | [.ptr 0 0] => onRd hp fun st => K (.int .u64 (rdNum st).1) [rdH (rdNum st).2]
  | _ => False
def L65 (bs l : List UInt8) (k : Nat) : LoopAnn := cntA (fun i => ⟨[(0, .ptr 0 0), (4, .int .i64 k), (5, .int .u64 (beN (l.take i))), (61, .sl true 1 .byte l), (62, .int .i64 k), (63, .int .i64 i)], [.struct [.sl true 1 .byte bs, .bool false]]⟩) k
theorem beN_append (l : List UInt8) (x : UInt8) : beN (l ++ [x]) = beN l * 256 + x.toNat := by simp [beN]
theorem beN_lt' (l : List UInt8) : ∀ a : Nat, l.foldl (fun a b => a * 256 + b.toNat) a < (a + 1) * 256 ^ l.length := by
  induction l with
  | nil => intro a; simp
  | cons x r ih =>
    intro a
    rw [List.foldl_cons, List.length_cons]
    have h1 := ih (a * 256 + x.toNat)
    have h2 : x.toNat < 256 := x.toNat_lt
    have h3 : (a * 256 + x.toNat + 1) * 256 ^ r.length ≤ ((a + 1) * 256) * 256 ^ r.length := Nat.mul_le_mul_right _ (by omega)
    have h4 : (a + 1) * 256 ^ (r.length + 1) = ((a + 1) * 256) * 256 ^ r.length := by rw [Nat.pow_succ, Nat.mul_assoc, Nat.mul_comm (256 ^ r.length)]
    omega
theorem beN_lt (l : List UInt8) : beN l < 256 ^ l.length := by have := beN_lt' l 0; simpa [beN] using this
theorem or_add {a c : Int} (h1 : 0 ≤ a) (h2 : a < 72057594037927936) (h3 : 0 ≤ c ∧ c < 256) : bitsI .or .u64 (IntKind.u64.wrap (a * 2 ^ min 8 64)) c = a * 256 + c := by
  have e0 : (2 : Int) ^ min 8 64 = 256 := rfl
  rw [e0, u64wrap, show a * 256 % 18446744073709551616 = a * 256 by omega]
  obtain ⟨x, rfl⟩ := Int.eq_ofNat_of_zero_le h1
  obtain ⟨y, rfl⟩ := Int.eq_ofNat_of_zero_le h3.1
  have h : x <<< 8 + y = x <<< 8 ||| y := Nat.shiftLeft_add_eq_or_of_lt (by omega) x
  rw [Nat.shiftLeft_eq] at h
  have e1 : ((x : Int) * 256) = ((x * 256 : Nat) : Int) := by omega
  show IntKind.u64.wrap ((BitVec.ofInt 64 ((x : Int) * 256) ||| BitVec.ofInt 64 (y : Int)).toNat : Int) = _
  rw [e1, BitVec.ofInt_natCast, BitVec.ofInt_natCast, BitVec.toNat_or, BitVec.toNat_ofNat, BitVec.toNat_ofNat, Nat.mod_eq_of_lt (by omega), Nat.mod_eq_of_lt (by omega), u64wrap]
  have h' : x * 2 ^ 8 + y = x * 256 ||| y := h
  rw [← h']
  omega
theorem beN_step' {l : List UInt8} {i : Nat} (hi8 : i < 8) (hlt : i < l.length) :
    bitsI .or .u64 (IntKind.u64.wrap ((beN (l.take i) : Int) * 2 ^ min 8 64)) (UInt8.toNat (elt Ty.byte l i) : Int) = (beN (l.take (i + 1)) : Int) := by
  have h1 := beN_lt (l.take i)
  have h2 : (l.take i).length = i := by rw [List.length_take]; omega
  rw [h2] at h1
  have h3 : 256 ^ i ≤ 256 ^ 7 := Nat.pow_le_pow_right (by decide) (by omega)
  have h4 : UInt8.toNat (elt Ty.byte l i) < 256 := UInt8.toNat_lt _
  rw [or_add (by omega) (by omega) (by omega)]
  have h5 := take_elt (t := .byte) hlt
  rw [← h5]
  have h6 : beN (l.take i ++ [elt Ty.byte l i]) = beN (l.take i) * 256 + UInt8.toNat (elt Ty.byte l i) := beN_append _ _
  rw [h6]
  omega

theorem beN_step {l : List UInt8} {k i : Nat} (hk : k ≤ 8) (hl : l.length = k) (hi : i < k) :
    bitsI .or .u64 (IntKind.u64.wrap ((beN (l.take i) : Int) * 2 ^ min 8 64)) (UInt8.toNat (elt Ty.byte l i) : Int) = (beN (l.take (i + 1)) : Int) := beN_step' (by omega) (by omega)

theorem s65 : Sound Tryz.prog 65 C65 := by
  refine sound_of_okF ok65 (Γ := [(109, C109)]) (.cons s109 (callable_of_okF ok109) .nil) ?_
  intro args hp K h
  unfold C65 at h
  split at h
  · obtain ⟨st, rfl, h⟩ := h
    refine ⟨by simp, [(1, L65 (st.getD []) (((st.getD []).drop 1).take (((st.getD []).headD 0).toNat - 247)) (((st.getD []).headD 0).toNat - 247))], ?_⟩
    unfold rdH at h ⊢
    simp (maxSteps := 2000000) only [a65, r65, C109, go_sem, eq_self, and_self, Int.natCast_pos, Int.le_refl, Nat.le_refl, Int.natCast_nonneg, Int.ofNat_lt, Int.ofNat_le, Int.reduceLT, Int.reduceLE, Int.reduceEq, Int.reduceNe, Int.reduceAdd, Int.reduceSub, Int.reduceMul, Int.reduceToNat, Int.reduceNeg, Nat.reduceEqDiff, Nat.reduceLeDiff, Nat.reduceSub, Nat.reduceMul, Nat.reduceLT, Nat.reduceBEq, Nat.reduceAdd]
    refine sw_intro (fun h1 => ?_) (fun h1 => ?_)
    · cases st with
      | none => exact h
      | some bs => cases h1
    · cases st with
      | none => cases h1
      | some bs =>
        simp only [Option.getD_some, Option.isNone_some]
        rintro _ hb m rfl c hc
        cases bs with
        | nil =>
          have : c = true := by rw [hc]; rfl
          subst this
          exact h
        | cons x r =>
          have : c = false := by rw [hc]; simp; omega
          subst this
          refine sw_intro (fun h => by cases h) (fun _ => nd_intro (by simp) ?_)
          have e0 : elt Ty.byte (x :: r) 0 = x := rfl
          have hx : x.toNat < 256 := x.toNat_lt
          simp only [e0]
          rintro c rfl
          refine sw_intro (fun h2 => ?_) (fun h2 => ?_) <;> simp only [decide_eq_true_eq, decide_eq_false_iff_not] at h2
          · refine nd_intro (by simp; omega) ?_
            rintro ys rfl _ m hm
            rw [wu64 (by omega)] at hm
            subst hm
            have e1 : rdNum (some (x :: r)) = ((x.toNat : Int), some r) := by
              simp only [rdNum, Option.bind_some, numR]
              rw [if_pos (by omega)]
            rw [e1] at h
            have e2 : List.take ((x :: r).length - 1) (List.drop 1 (x :: r)) = r := by simp
            rw [e2]
            exact h
          · rintro _ m hm
            rw [w64 (by omega)] at hm
            subst hm
            rintro _ _ m1 hm1
            rw [w64 (by omega)] at hm1
            rintro _ _ m2 rfl _ _ m3 hm3
            have hl : (x :: r).length = r.length + 1 := rfl
            have := maxLen_val
            rw [w64 (by omega)] at hm3
            rintro c rfl
            have hk : m1 = ((x.toNat - 247 : Nat) : Int) := by omega
            subst hk
            generalize hkk : x.toNat - 247 = k at *
            have hk1 : 1 ≤ k ∧ k ≤ 8 := by omega
            refine sw_intro (fun h3 => ?_) (fun h3 => ?_) <;> simp only [decide_eq_true_eq, decide_eq_false_iff_not] at h3
            · have e1 : rdNum (some (x :: r)) = (0, none) := by
                simp only [rdNum, Option.bind_some, numR]
                rw [if_neg (by omega), hkk, if_pos (by omega)]
              rw [e1] at h
              exact h
            · rintro _ _ m4 hm4
              rw [w64 (by omega)] at hm4
              subst hm4
              refine nd_intro ⟨by omega, by omega⟩ ?_
              rintro ys rfl _ _ m5 rfl
              have e3 : ((1 : Int) + (k : Int)).toNat - 1 = k := by omega
              rw [e3]
              have hlen : (List.take k (List.drop 1 (x :: r))).length = k := by simp; omega
              rw [hlen]
              have e5 : ((x :: r).headD 0).toNat - 247 = k := hkk
              rw [e5]
              refine loop_intro (A := L65 (x :: r) (List.take k (List.drop 1 (x :: r))) k) (0 : Nat) ?_ (Nat.zero_le _) ?_
              · simp (maxSteps := 2000000) only [L65, cntA_I, go_sem, eq_self, and_self, Int.natCast_pos, Int.le_refl, Nat.le_refl, Int.natCast_nonneg, Int.ofNat_lt, Int.ofNat_le, Int.reduceLT, Int.reduceLE, Int.reduceEq, Int.reduceNe, Int.reduceAdd, Int.reduceSub, Int.reduceMul, Int.reduceToNat, Int.reduceNeg, Nat.reduceEqDiff, Nat.reduceLeDiff, Nat.reduceSub, Nat.reduceMul, Nat.reduceLT, Nat.reduceBEq, Nat.reduceAdd]
                rfl
              · intro (i : Nat) (hi : i ≤ k)
                simp (maxSteps := 2000000) only [L65, cntA_I, C109, go_sem, eq_self, and_self, Int.natCast_pos, Int.le_refl, Nat.le_refl, Int.natCast_nonneg, Int.ofNat_lt, Int.ofNat_le, Int.reduceLT, Int.reduceLE, Int.reduceEq, Int.reduceNe, Int.reduceAdd, Int.reduceSub, Int.reduceMul, Int.reduceToNat, Int.reduceNeg, Nat.reduceEqDiff, Nat.reduceLeDiff, Nat.reduceSub, Nat.reduceMul, Nat.reduceLT, Nat.reduceBEq, Nat.reduceAdd]
                have hlen' : (List.take k r).length = k := hlen
                rintro c rfl
                refine sw_intro (fun hc => ?_) (fun hc => ?_) <;> simp only [decide_eq_true_eq, decide_eq_false_iff_not] at hc
                · refine nd_intro (by omega) ?_
                  have hc8 : UInt8.toNat (elt Ty.byte (List.take k r) i) < 256 := UInt8.toNat_lt _
                  rintro _ _ m6 hm6 _ m7 hm7
                  rw [wu64 (by omega)] at hm7
                  rintro _ _ m8 hm8
                  rw [hm6, hm7, beN_step hk1.2 hlen' hc] at hm8
                  subst hm8
                  rintro _ _ m9 hm9
                  rw [w64 (by omega)] at hm9
                  subst hm9
                  exact cntA_next hc (by simp (maxSteps := 2000000) only [go_sem, eq_self, and_self, Int.natCast_pos, Int.le_refl, Nat.le_refl, Int.natCast_nonneg, Int.ofNat_lt, Int.ofNat_le, Int.reduceLT, Int.reduceLE, Int.reduceEq, Int.reduceNe, Int.reduceAdd, Int.reduceSub, Int.reduceMul, Int.reduceToNat, Int.reduceNeg, Nat.reduceEqDiff, Nat.reduceLeDiff, Nat.reduceSub, Nat.reduceMul, Nat.reduceLT, Nat.reduceBEq, Nat.reduceAdd]; rfl)
                · have hik : i = k := by omega
                  subst hik
                  have e6 : List.take i (List.take i r) = List.take i r := by rw [List.take_take, Nat.min_self]
                  rw [e6]
                  have e7 : rdNum (some (x :: r)) = match (if beN (r.take i) < 248 ∨ r.headD 0 = 0 then none else some ((beN (r.take i) : Int), r.drop i)) with | some x => (x.1, some x.2) | none => (0, none) := by
                    simp only [rdNum, Option.bind_some, numR]
                    rw [if_neg (by omega), hkk, if_neg (by omega)]
                  rintro c rfl
                  refine sw_intro (fun hc2 => ?_) (fun hc2 => ?_) <;> simp only [decide_eq_true_eq, decide_eq_false_iff_not] at hc2
                  · rw [if_pos (.inl (by omega))] at e7
                    rw [e7] at h
                    exact h
                  · refine nd_intro (by omega) (nd_intro (by omega) ?_)
                    rintro c rfl
                    have e8 : elt Ty.byte (x :: r) 1 = r.headD 0 := by cases r <;> rfl
                    refine sw_intro (fun hc3 => ?_) (fun hc3 => ?_) <;> simp only [decide_eq_true_eq, decide_eq_false_iff_not, e8] at hc3
                    · rw [if_pos (.inr (UInt8.toNat_inj.1 (by show (r.headD 0).toNat = 0; omega)))] at e7
                      rw [e7] at h
                      exact h
                    · rintro _ _ m6 hm6
                      rw [w64 (by omega)] at hm6
                      subst hm6
                      refine nd_intro ⟨by omega, by omega⟩ ?_
                      rintro ys rfl
                      have e9 : List.take (r.length + 1 - ((1 : Int) + (i : Int)).toNat) (List.drop ((1 : Int) + (i : Int)).toNat (x :: r)) = r.drop i := by
                        have : ((1 : Int) + (i : Int)).toNat = i + 1 := by omega
                        rw [this, List.drop_succ_cons, List.take_of_length_le (by rw [List.length_drop]; omega)]
                      rw [e9]
                      rw [if_neg (fun hh => hh.elim (fun h => by omega) (fun h => hc3 (by rw [h]; rfl)))] at e7
                      rw [e7] at h
                      exact h
  · exact h.elim
theorem rdNum_in (st : Option (List UInt8)) : 0 ≤ (rdNum st).1 ∧ (rdNum st).1 ≤ 18446744073709551615 := by
  cases st with
  | none => simp [rdNum]
  | some bs =>
    cases bs with
    | nil => simp [rdNum, numR]
    | cons x r =>
      have hx : x.toNat < 256 := x.toNat_lt
      simp only [rdNum, Option.bind_some, numR]
      by_cases h1 : x.toNat < 248
      · rw [if_pos h1]; simp; omega
      · rw [if_neg h1]
        by_cases h2 : r.length < x.toNat - 247
        · rw [if_pos h2]; simp
        · rw [if_neg h2]
          split
          · rename_i y hy
            split at hy
            · cases hy
            · cases hy
              have h3 := beN_lt (r.take (x.toNat - 247))
              have h4 : (r.take (x.toNat - 247)).length ≤ 8 := by rw [List.length_take]; omega
              have h5 : 256 ^ (r.take (x.toNat - 247)).length ≤ 256 ^ 8 := Nat.pow_le_pow_right (by decide) h4
              simp only
              omega
          · simp
theorem and_one {n : Int} (hn : 0 ≤ n ∧ n ≤ 18446744073709551615) : bitsI .and .u64 n 1 = n % 2 := by
  obtain ⟨x, rfl⟩ := Int.eq_ofNat_of_zero_le hn.1
  show IntKind.u64.wrap ((BitVec.ofInt 64 (x : Int) &&& BitVec.ofInt 64 1).toNat : Int) = _
  have e1 : BitVec.ofInt 64 1 = BitVec.ofNat 64 1 := rfl
  rw [e1, BitVec.ofInt_natCast, BitVec.toNat_and, BitVec.toNat_ofNat, Nat.mod_eq_of_lt (by omega), u64wrap]
  have e2 : (BitVec.ofNat 64 1).toNat = 2 ^ 1 - 1 := rfl
  rw [e2, Nat.and_two_pow_sub_one_eq_mod]
  omega
theorem xor_m1 {a : Int} (h : 0 ≤ a ∧ a ≤ 9223372036854775807) : bitsI .xor .i64 a (-1) = -a - 1 := by
  have h0 : BitVec.ofInt 64 (-1) = BitVec.allOnes 64 := by decide
  have e : bitsI .xor .i64 a (-1) = IntKind.i64.wrap ((~~~ (BitVec.ofInt 64 a)).toNat : Int) := by
    show IntKind.i64.wrap ((BitVec.ofInt 64 a ^^^ BitVec.ofInt 64 (-1)).toNat : Int) = _
    rw [h0, BitVec.xor_allOnes]
  rw [e, BitVec.toNat_not, BitVec.toNat_ofInt]
  simp only [IntKind.wrap, IntKind.signed, IntKind.bits]
  simp
  omega
theorem unz_bits {n : Int} (hn : 0 ≤ n ∧ n ≤ 18446744073709551615) :
    bitsI .xor .i64 (IntKind.i64.wrap (n.fdiv (2 ^ min 1 64))) (IntKind.i64.wrap (0 - IntKind.i64.wrap (bitsI .and .u64 n 1))) = unz n := by
  have e1 : (2 : Int) ^ min 1 64 = 2 := rfl
  rw [e1, Int.fdiv_eq_ediv_of_nonneg _ (by decide), and_one hn, w64 (by omega), w64 (n := n % 2) (by omega), w64 (by omega)]
  unfold unz
  split
  · rename_i h
    rw [h]
    exact xor_zero (inR_i64.2 (by omega))
  · have e : n % 2 = 1 := by omega
    rw [e]
    exact xor_m1 (by omega)

def C67 : Contract := fun args hp K => match args with
  | [.ptr 0 0] => onRd hp fun st => ((rdText st).1.size ≤ 140737488355328 → K (.str (rdText st).1) [rdH (rdText st).2])
  | _ => False
theorem s67 : Sound Tryz.prog 67 C67 := by
  refine sound_of_okF ok67 (Γ := [(109, C109), (65, C65)]) (.cons s109 (callable_of_okF ok109) (.cons s65 (callable_of_okF ok65) .nil)) ?_
  intro args hp K h
  unfold C67 at h
  split at h
  · obtain ⟨st, rfl, h⟩ := h
    refine ⟨by simp, [], ?_⟩
    unfold rdH at h ⊢
    simp (maxSteps := 2000000) only [a67, r67, C109, C65, rdH, go_sem, eq_self, and_self, Int.natCast_pos, Int.le_refl, Nat.le_refl, Int.natCast_nonneg, Int.ofNat_lt, Int.ofNat_le, Int.reduceLT, Int.reduceLE, Int.reduceEq, Int.reduceNe, Int.reduceAdd, Int.reduceSub, Int.reduceMul, Int.reduceToNat, Int.reduceNeg, Nat.reduceEqDiff, Nat.reduceLeDiff, Nat.reduceSub, Nat.reduceMul, Nat.reduceLT, Nat.reduceBEq, Nat.reduceAdd]
    generalize hn : rdNum st = x at *
    obtain ⟨n, st'⟩ := x
    have hr := rdNum_in st
    rw [hn] at hr
    refine sw_intro (fun h1 => ?_) (fun h1 => ?_)
    · cases st' with
      | none =>
        have e : rdText st = (ByteArray.empty, none) := by unfold rdText; rw [hn]
        rw [e] at h
        exact h (by decide)
      | some bs => cases h1
    · cases st' with
      | none => cases h1
      | some bs =>
        simp only [Option.getD_some, Option.isNone_some]
        have := maxLen_val
        rintro hb hb2 m rfl _ m1 hm1
        rw [wu64 (by omega)] at hm1
        subst hm1
        rintro c rfl
        refine sw_intro (fun hc => ?_) (fun hc => ?_) <;> simp only [decide_eq_true_eq, decide_eq_false_iff_not] at hc
        · have e : rdText st = (ByteArray.empty, none) := by unfold rdText; rw [hn]; exact if_pos hc
          rw [e] at h
          exact h (by decide)
        · have e : rdText st = (⟨(bs.take n.toNat).toArray⟩, some (bs.drop n.toNat)) := by unfold rdText; rw [hn]; exact if_neg hc
          rw [e] at h
          refine nd_intro ⟨by omega, by omega⟩ ?_
          rintro ys rfl u rfl
          refine nd_intro ⟨by omega, by omega⟩ ?_
          rintro ys rfl
          rw [show n.toNat - 0 = n.toNat by omega, List.take_of_length_le (i := bs.length - n.toNat) (by rw [List.length_drop]; exact Nat.le_refl _)]
          exact h (by show ((bs.take n.toNat).toArray).size ≤ _; rw [List.size_toArray, List.length_take]; omega)
  · exact h.elim
def C110 : Contract := fun args hp K => match args with
  | [.ptr 0 0] => onRd hp fun st => K (.int .i64 (rdInt st).1) [rdH (rdInt st).2]
  | _ => False
theorem s110 : Sound Tryz.prog 110 C110 := by
  refine sound_of_okF ok110 (Γ := [(65, C65)]) (.cons s65 (callable_of_okF ok65) .nil) ?_
  intro args hp K h
  unfold C110 at h
  split at h
  · obtain ⟨st, rfl, h⟩ := h
    refine ⟨by simp, [], ?_⟩
    unfold rdH at h ⊢
    simp (maxSteps := 2000000) only [a110, r110, C65, rdH, go_sem, eq_self, and_self, Int.natCast_pos, Int.le_refl, Nat.le_refl, Int.natCast_nonneg, Int.ofNat_lt, Int.ofNat_le, Int.reduceLT, Int.reduceLE, Int.reduceEq, Int.reduceNe, Int.reduceAdd, Int.reduceSub, Int.reduceMul, Int.reduceToNat, Int.reduceNeg, Nat.reduceEqDiff, Nat.reduceLeDiff, Nat.reduceSub, Nat.reduceMul, Nat.reduceLT, Nat.reduceBEq, Nat.reduceAdd]
    generalize hn : rdNum st = x at *
    obtain ⟨n, st'⟩ := x
    have hr := rdNum_in st
    rw [hn] at hr
    rintro _ _ m rfl _ m1 rfl _ _ m2 rfl _ m3 rfl _ m4 rfl _ _ m5 rfl
    rw [unz_bits hr]
    have e : rdInt st = (unz n, st') := by unfold rdInt; rw [hn]
    rw [e] at h
    exact h
  · exact h.elim
end Go.V
