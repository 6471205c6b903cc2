/- A part of the proof layer, or functions of the given program in it: contracts and their proofs. -/
import Derived.Test.YtbcmjkfdeikkhaaGreatMA71
import Derived.Test.YtbcmjkfdeikkhaaGreatMN5
namespace Go.V
open Go.Proofs
set_option maxRecDepth 100000
set_option maxHeartbeats 8000000
set_option linter.unusedSimpArgs false
set_option linter.unnecessarySimpa false
set_option linter.unusedVariables false
/-! ### letters and events, read -/
/-- Left -/
def C111 : Contract := fun args hp K => match args with
  | [.ptr 0 0] => onRd hp fun st => K (.int .i64 (st.getD []).length) [rdH st]
  | _ => False
theorem s111 : Sound Tryz.prog 111 C111 := by
  refine sound_of_okF ok111 (Γ := []) .nil ?_
  intro args hp K h
  unfold C111 at h
  split at h
  · obtain ⟨st, rfl, h⟩ := h
    refine ⟨by simp, [], ?_⟩
    unfold rdH at h ⊢
    simp (maxSteps := 2000000) only [a111, r111, go_sem, Nat.reduceBEq]
    rintro _ _ m rfl
    exact h
  · exact h.elim
def letsN (st : Option (List UInt8)) : Nat → Option (List LetT.den × Option (List UInt8))
  | 0 => some ([], st)
  | n + 1 => match letsN st n with
    | some p => match (rdLet p.2).1 with
      | some x => some (p.1 ++ [x], (rdLet p.2).2)
      | none => none
    | none => none
theorem letsN_len {st : Option (List UInt8)} : ∀ {n : Nat} {p : List LetT.den × Option (List UInt8)}, letsN st n = some p → p.1.length = n
  | 0, p, h => by simp only [letsN, Option.some.injEq] at h; subst h; rfl
  | n + 1, p, h => by
    simp only [letsN] at h
    cases hq : letsN st n with
    | none => rw [hq] at h; cases h
    | some q =>
      rw [hq] at h
      have ih := letsN_len hq
      simp only at h
      cases hd : (rdLet q.2).1 with
      | none => rw [hd] at h; cases h
      | some x =>
        rw [hd] at h
        simp only [Option.some.injEq] at h
        subst h
        rw [List.length_append, ih]
        rfl
theorem letsN_none {st : Option (List UInt8)} : ∀ {n m : Nat}, letsN st n = none → n ≤ m → letsN st m = none
  | n, 0, h, hm => by
    obtain rfl : n = 0 := by omega
    exact h
  | n, m + 1, h, hm => by
    rcases Nat.lt_or_ge n (m + 1) with h1 | h1
    · simp only [letsN, letsN_none h (by omega : n ≤ m)]
    · obtain rfl : n = m + 1 := by omega
      exact h
def decP (bs : List UInt8) : Option (List LetT.den) :=
  if (((rdNum (some bs)).2.getD []).length : Int) < (rdNum (some bs)).1 then none else
  match letsN (rdNum (some bs)).2 (rdNum (some bs)).1.toNat with
  | some p => if p.2 = some [] then some p.1 else none
  | none => none
/-- Unpack -/
def C69 : Contract := fun args hp K => match args, hp with
  | [.sl p 1 .byte bs], [] => bs.length ≤ 1000000000000 ∧ (decP bs = none → K (.tup [.own 0, .int .i64 2]) [.row true 56 LetT []]) ∧ (∀ l, decP bs = some l → K (.tup [.own 0, .int .i64 0]) [.row true 56 LetT l])
  | _, _ => False
def L69 (st : Option (List UInt8)) (n : Nat) : LoopAnn := { G := Nat × (List LetT.den × Option (List UInt8)), I := fun g => ⟨[(4, .ptr 0 0), (6, .own 1), (18, .int .u64 n), (19, .int .u64 g.1)], [rdH g.2.2, .row true 56 LetT g.2.1]⟩, R := fun _ g => g.1 ≤ n ∧ letsN st g.1 = some g.2, μ := fun g => n - g.1 }
theorem L69_I {st n} (g : Nat × (List LetT.den × Option (List UInt8))) : (L69 st n).I g = ⟨[(4, .ptr 0 0), (6, .own 1), (18, .int .u64 n), (19, .int .u64 g.1)], [rdH g.2.2, .row true 56 LetT g.2.1]⟩ := rfl
theorem rdNum_len (bs : List UInt8) : ((rdNum (some bs)).2.getD []).length ≤ bs.length := by
  cases h : (rdNum (some bs)).2 with
  | none => exact Nat.zero_le _
  | some r =>
    have e : rdNum (some bs) = ((rdNum (some bs)).1, some r) := by rw [← h]
    have := (rdNum_back e).1
    simp only [Option.some.injEq] at this
    show r.length ≤ bs.length
    rw [this, List.length_append]
    omega
theorem s69 : Sound Tryz.prog 69 C69 := by
  refine sound_of_okF ok69 (Γ := [(64, C64), (65, C65), (111, C111), (112, C112), (70, C70)]) (.cons s64 (callable_of_okF ok64) (.cons s65 (callable_of_okF ok65) (.cons s111 (callable_of_okF ok111) (.cons s112 (callable_of_okF ok112) (.cons s70 (callable_of_okF ok70) .nil))))) ?_
  intro args hp K h
  unfold C69 at h
  split at h
  · rename_i p bs
    obtain ⟨hbs, h0, h1⟩ := h
    refine ⟨by simp, [(1, L69 (rdNum (some bs)).2 (rdNum (some bs)).1.toNat)], ?_⟩
    have hll := rdNum_len bs
    have hn := rdNum_in (some bs)
    unfold decP at h0 h1
    simp (maxSteps := 2000000) only [a69, r69, C64, C65, C111, rdH, go_sem, eq_self, Nat.reduceSub, Nat.reduceLT, Nat.reduceBEq]
    generalize rdNum (some bs) = a at *
    rintro _ m hm
    rw [wu64 (by omega)] at hm
    subst hm
    rintro c rfl
    refine sw_intro (fun hc => ?_) (fun hc => ?_) <;> simp only [decide_eq_true_eq, decide_eq_false_iff_not] at hc
    · exact h0 (if_pos hc)
    rw [if_neg hc] at h0 h1
    refine loop_intro (A := L69 a.2 a.1.toNat) ((0 : Nat), (([] : List LetT.den), a.2)) ?_ ⟨Nat.zero_le _, rfl⟩ ?_
    · simp (maxSteps := 2000000) only [L69_I, rdH, go_sem, Nat.reduceBEq]
      rw [Int.toNat_of_nonneg hn.1]
      rfl
    rintro ⟨i, l, st⟩ ⟨(hi : i ≤ a.1.toNat), hp⟩
    simp only at hp
    simp (maxSteps := 2000000) only [L69_I, rdH, C112, C70, letK, go_sem, eq_self, Nat.le_refl, Int.ofNat_lt, Nat.reduceLeDiff, Nat.reduceSub, Nat.reduceMul, Nat.reduceLT, Nat.reduceBEq, Nat.reduceAdd]
    rintro c rfl
    refine sw_intro (fun hc2 => ?_) (fun hc2 => ?_) <;> simp only [decide_eq_true_eq, decide_eq_false_iff_not] at hc2
    · refine ⟨fun hx => ?_, fun x hx => ?_⟩
      · refine h0 ?_
        rw [letsN_none (n := i + 1) (by simp only [letsN, hp, hx]) (by omega)]
      · have hl := letsN_len hp
        simp only at hl
        refine ⟨fun _ => by omega, fun _ => ?_⟩
        rintro _ _ m hm
        rw [wu64 (by omega)] at hm
        subst hm
        refine lpE_intro (A := L69 a.2 a.1.toNat) (i + 1, (l ++ [x], (rdLet st).2)) (by simp (maxSteps := 2000000) only [L69_I, rdH, go_sem, Nat.reduceBEq]; rfl) ⟨by show i + 1 ≤ a.1.toNat; omega, by simp only [letsN, hp, hx]⟩ (by show a.1.toNat - (i + 1) < a.1.toNat - i; omega)
    · obtain rfl : i = a.1.toNat := by omega
      rw [hp] at h0 h1
      simp only at h0 h1
      refine sw_intro (fun he => ?_) (fun he => ?_)
      · rw [if_pos (of_decide_eq_true he)] at h1
        exact h1 _ rfl
      · rw [if_neg (of_decide_eq_false he)] at h0
        exact h0 rfl
  · exact h.elim
def decI (bs : List UInt8) : Option (List LetT.den) :=
  match decP bs with
  | some l => if l.length ≤ 8 then some l else none
  | none => none
/-- inbox.Decode -/
def C68 : Contract := fun args hp K => match args, hp with
  | [.sl p 1 .byte bs], [] => bs.length ≤ 1000000000000 ∧ (decI bs = none → K (.tup [.nilp, .int .i64 2]) []) ∧ (∀ l, decI bs = some l → K (.tup [.ptr 0 0, .int .i64 0]) (inH true l))
  | _, _ => False
theorem s68 : Sound Tryz.prog 68 C68 := by
  refine sound_of_okF ok68 (Γ := [(69, C69)]) (.cons s69 (callable_of_okF ok69) .nil) ?_
  intro args hp K h
  unfold C68 at h
  split at h
  · rename_i p bs
    obtain ⟨hbs, h0, h1⟩ := h
    refine ⟨by simp, [], ?_⟩
    unfold decI at h0 h1
    unfold inH at h1
    have hmx := maxLen_val
    simp (maxSteps := 2000000) only [a68, r68, C69, go_sem, eq_self, Nat.le_refl, Int.reduceEq, Nat.reduceSub, Nat.reduceLT, Nat.reduceBEq, Nat.reduceAdd]
    refine ⟨hbs, fun hn => ?_, fun l hl => ?_⟩
    · rw [hn] at h0
      exact h0 rfl
    · rw [hl] at h0 h1
      simp only at h0 h1
      rintro _ _ m rfl c rfl
      refine sw_intro (fun hc => ?_) (fun hc => ?_) <;> simp only [decide_eq_true_eq, decide_eq_false_iff_not] at hc
      · exact h0 (if_neg (by omega))
      · exact h1 _ (if_pos (by omega))
  · exact h.elim

/-! ### journals, read -/
def evsN (st : Option (List UInt8)) : Nat → Option (List EvT.den × Option (List UInt8))
  | 0 => some ([], st)
  | n + 1 => match evsN st n with
    | some p => if 8 ≤ (rdNum p.2).1 then none else some (p.1 ++ [((rdNum p.2).1, (rdInt (rdNum p.2).2).1)], (rdInt (rdNum p.2).2).2)
    | none => none
theorem evsN_len {st : Option (List UInt8)} : ∀ {n : Nat} {p : List EvT.den × Option (List UInt8)}, evsN st n = some p → p.1.length = n
  | 0, p, h => by simp only [evsN, Option.some.injEq] at h; subst h; rfl
  | n + 1, p, h => by
    simp only [evsN] at h
    cases hq : evsN st n with
    | none => rw [hq] at h; cases h
    | some q =>
      rw [hq] at h
      have ih := evsN_len hq
      simp only at h
      split at h
      · cases h
      · simp only [Option.some.injEq] at h
        subst h
        rw [List.length_append, ih]
        rfl
theorem evsN_none {st : Option (List UInt8)} : ∀ {n m : Nat}, evsN st n = none → n ≤ m → evsN st m = none
  | n, 0, h, hm => by
    obtain rfl : n = 0 := by omega
    exact h
  | n, m + 1, h, hm => by
    rcases Nat.lt_or_ge n (m + 1) with h1 | h1
    · simp only [evsN, evsN_none h (by omega : n ≤ m)]
    · obtain rfl : n = m + 1 := by omega
      exact h
def decJ (bs : List UInt8) : Option (Int × List Int × List EvT.den) :=
  let a := rdNum (some bs)
  let b := rdInts 8 a.2
  let c := rdNum b.2
  if 16 < c.1 ∨ a.1 < c.1 then none else
  match evsN c.2 c.1.toNat with
  | some p => if p.2 = some [] then some (a.1, b.1, p.1) else none
  | none => none
def baseZ (i : Nat) (st : Option (List UInt8)) : List Int := (rdInts i st).1 ++ List.replicate (8 - i) 0
theorem baseZ_set {i : Nat} (h : i < 8) (st : Option (List UInt8)) : (baseZ i st).set i (rdInt (rdInts i st).2).1 = baseZ (i + 1) st := by
  unfold baseZ
  have hl := rdInts_length i st
  obtain ⟨k, hk⟩ : ∃ k, 8 - i = k + 1 := ⟨8 - i - 1, by omega⟩
  have hk2 : 8 - (i + 1) = k := by omega
  rw [hk, hk2, List.set_append_right _ _ (by omega), hl, Nat.sub_self, List.replicate_succ, List.set_cons_zero]
  simp [rdInts]
/-- journal.Decode -/
def C66 : Contract := fun args hp K => match args, hp with
  | [.sl p 1 .byte bs], [] => (decJ bs = none → K (.tup [.nilp, .int .i64 2]) []) ∧ (∀ v b ev, decJ bs = some (v, b, ev) → K (.tup [.ptr 0 0, .int .i64 0]) (jH true b ev v))
  | _, _ => False
def L66 (v : Int) (st : Option (List UInt8)) : LoopAnn := { G := Nat, I := fun i => ⟨[(4, .ptr 0 0), (5, .ptr 1 0), (15, .int .i64 i)], [rdH (rdInts i st).2, .struct [.arr 8 (.int .i64) (baseZ i st), .own 2, .int .u64 v], .row true 16 EvT []]⟩, R := fun _ i => i ≤ 8, μ := fun i => 8 - i }
theorem L66_I {v st} (i : Nat) : (L66 v st).I i = ⟨[(4, .ptr 0 0), (5, .ptr 1 0), (15, .int .i64 i)], [rdH (rdInts i st).2, .struct [.arr 8 (.int .i64) (baseZ i st), .own 2, .int .u64 v], .row true 16 EvT []]⟩ := rfl
def M66 (v : Int) (b : List Int) (st : Option (List UInt8)) (n : Nat) : LoopAnn := { G := Nat × (List EvT.den × Option (List UInt8)), I := fun g => ⟨[(4, .ptr 0 0), (5, .ptr 1 0), (38, .int .u64 n), (39, .int .u64 g.1)], [rdH g.2.2, .struct [.arr 8 (.int .i64) b, .own 2, .int .u64 v], .row true 16 EvT g.2.1]⟩, R := fun _ g => g.1 ≤ n ∧ evsN st g.1 = some g.2, μ := fun g => n - g.1 }
theorem M66_I {v b st n} (g : Nat × (List EvT.den × Option (List UInt8))) : (M66 v b st n).I g = ⟨[(4, .ptr 0 0), (5, .ptr 1 0), (38, .int .u64 n), (39, .int .u64 g.1)], [rdH g.2.2, .struct [.arr 8 (.int .i64) b, .own 2, .int .u64 v], .row true 16 EvT g.2.1]⟩ := rfl
theorem s66 : Sound Tryz.prog 66 C66 := by
  refine sound_of_okF ok66 (Γ := [(64, C64), (65, C65), (110, C110), (70, C70)]) (.cons s64 (callable_of_okF ok64) (.cons s65 (callable_of_okF ok65) (.cons s110 (callable_of_okF ok110) (.cons s70 (callable_of_okF ok70) .nil)))) ?_
  intro args hp K h
  unfold C66 at h
  split at h
  · rename_i p bs
    obtain ⟨h0, h1⟩ := h
    refine ⟨by simp, [(1, L66 (rdNum (some bs)).1 (rdNum (some bs)).2), (2, M66 (rdNum (some bs)).1 (rdInts 8 (rdNum (some bs)).2).1 (rdNum (rdInts 8 (rdNum (some bs)).2).2).2 (rdNum (rdInts 8 (rdNum (some bs)).2).2).1.toNat)], ?_⟩
    unfold decJ at h0 h1
    simp only at h0 h1
    simp (maxSteps := 2000000) only [a66, r66, C64, C65, rdH, go_sem, eq_self, Nat.le_refl, Nat.reduceLeDiff, Nat.reduceSub, Nat.reduceMul, Nat.reduceLT, Nat.reduceBEq, Nat.reduceAdd]
    generalize rdNum (some bs) = a at *
    refine loop_intro (A := L66 a.1 a.2) (0 : Nat) ?_ (Nat.zero_le _) ?_
    · simp (maxSteps := 2000000) only [L66_I, rdH, go_sem, Nat.reduceBEq, Nat.reduceAdd]
      rfl
    intro (i : Nat) (hi : i ≤ 8)
    simp (maxSteps := 2000000) only [L66_I, rdH, C110, go_sem, eq_self, and_self, Int.natCast_nonneg, Int.ofNat_lt, Nat.reduceBEq, Nat.reduceAdd]
    rintro c rfl
    refine sw_intro (fun hc => ?_) (fun hc => ?_) <;> simp only [decide_eq_true_eq, decide_eq_false_iff_not] at hc
    · replace hc : i < 8 := by omega
      refine nd_intro hc ?_
      rintro _ _ m hm
      rw [w64 (by omega)] at hm
      subst hm
      have e := baseZ_set hc a.2
      refine lpE_intro (A := L66 a.1 a.2) (i + 1 : Nat) ?_ hc (by show 8 - (i + 1) < 8 - i; omega)
      simp (maxSteps := 2000000) only [L66_I, rdH, e, go_sem, Nat.reduceBEq, Nat.reduceAdd]
      rfl
    obtain rfl : i = 8 := by omega
    have hb8 : baseZ 8 a.2 = (rdInts 8 a.2).1 := by simp [baseZ]
    have hn := rdNum_in (rdInts 8 a.2).2
    simp (maxSteps := 2000000) only [C65, rdH, go_sem, Nat.le_refl, Nat.reduceLeDiff, Nat.reduceSub, Nat.reduceMul, Nat.reduceBEq, Nat.reduceAdd]
    rw [hb8]
    generalize rdInts 8 a.2 = b at *
    generalize rdNum b.2 = d at *
    rintro c rfl
    refine sw_intro (fun c1 => ?_) (fun c1 => ?_) <;> simp only [decide_eq_true_eq, decide_eq_false_iff_not] at c1
    · exact h0 (if_pos (.inl c1))
    rintro c rfl
    refine sw_intro (fun c2 => ?_) (fun c2 => ?_) <;> simp only [decide_eq_true_eq, decide_eq_false_iff_not] at c2
    · exact h0 (if_pos (.inr c2))
    rw [if_neg (fun hh => hh.elim c1 c2)] at h0 h1
    refine loop_intro (A := M66 a.1 b.1 d.2 d.1.toNat) ((0 : Nat), (([] : List EvT.den), d.2)) ?_ ⟨Nat.zero_le _, rfl⟩ ?_
    · simp (maxSteps := 2000000) only [M66_I, rdH, go_sem, Nat.reduceBEq, Nat.reduceAdd]
      rw [Int.toNat_of_nonneg hn.1]
      rfl
    rintro ⟨i, l, st⟩ ⟨(hi : i ≤ d.1.toNat), hp⟩
    simp only at hp
    simp (maxSteps := 2000000) only [M66_I, rdH, C65, C110, C70, go_sem, eq_self, and_self, Nat.le_refl, Int.ofNat_lt, Nat.reduceLeDiff, Nat.reduceSub, Nat.reduceMul, Nat.reduceBEq, Nat.reduceAdd]
    rintro c rfl
    refine sw_intro (fun hc2 => ?_) (fun hc2 => ?_) <;> simp only [decide_eq_true_eq, decide_eq_false_iff_not] at hc2
    · have hr := rdNum_in st
      rintro c rfl
      refine sw_intro (fun c3 => ?_) (fun c3 => ?_) <;> simp only [decide_eq_true_eq, decide_eq_false_iff_not] at c3
      · refine h0 ?_
        rw [evsN_none (n := i + 1) (by simp only [evsN, hp]; rw [if_pos c3]) (by omega)]
      · have hl := evsN_len hp
        simp only at hl
        rintro _ m hm
        rw [w64 (by omega)] at hm
        subst hm
        refine ⟨fun _ m hm => by rw [w64 (by omega)] at hm; rw [hm], fun _ => by omega, fun _ => ?_⟩
        rintro _ _ m hm
        rw [wu64 (by omega)] at hm
        subst hm
        refine lpE_intro (A := M66 a.1 b.1 d.2 d.1.toNat) (i + 1, (l ++ [((rdNum st).1, (rdInt (rdNum st).2).1)], (rdInt (rdNum st).2).2)) (by simp (maxSteps := 2000000) only [M66_I, rdH, go_sem, Nat.reduceBEq, Nat.reduceAdd]; rfl) ⟨by show i + 1 ≤ d.1.toNat; omega, by simp only [evsN, hp]; rw [if_neg c3]⟩ (by show d.1.toNat - (i + 1) < d.1.toNat - i; omega)
    · obtain rfl : i = d.1.toNat := by omega
      rw [hp] at h0 h1
      simp only at h0 h1
      unfold jH at h1
      refine sw_intro (fun he => ?_) (fun he => ?_)
      · rw [if_pos (of_decide_eq_true he)] at h1
        exact h1 _ _ _ rfl
      · rw [if_neg (of_decide_eq_false he)] at h0
        exact h0 rfl
  · exact h.elim
end Go.V
namespace Go.V
open Go.Proofs
set_option maxRecDepth 100000
set_option maxHeartbeats 8000000
set_option linter.unusedSimpArgs false
set_option linter.unnecessarySimpa false
set_option linter.unusedVariables false
/-! ### what was laid is read -/
theorem letsN_letsB : ∀ (n : Nat) (ls : List LetT.den), n ≤ ls.length → (∀ x ∈ ls, okLet x) → ∀ r, letsN (some (letsB ls ++ r)) n = some (ls.take n, some (letsB (ls.drop n) ++ r))
  | 0, ls, h, hk, r => by simp [letsN]
  | n + 1, ls, h, hk, r => by
    have ih := letsN_letsB n ls (by omega) hk r
    have hlt : n < ls.length := by omega
    have e : ls.drop n = ls[n] :: ls.drop (n + 1) := List.drop_eq_getElem_cons hlt
    have e2 : letsB (ls.drop n) ++ r = letB ls[n] ++ (letsB (ls.drop (n + 1)) ++ r) := by
      rw [e]
      simp only [letsB, List.flatMap_cons, List.append_assoc]
    simp only [letsN, ih, e2, rdLet_letB (hk _ (List.getElem_mem hlt))]
    rw [List.take_succ_eq_append_getElem hlt]
theorem letsB_ge (ls : List LetT.den) : ls.length ≤ (letsB ls).length := by
  induction ls with
  | nil => simp [letsB]
  | cons x r ih =>
    have h1 := (numB_length x.2.1).1
    simp only [letsB, List.flatMap_cons, List.length_append, List.length_cons, letB] at ih ⊢
    omega
theorem decP_packB {ls : List LetT.den} (h : ls.length ≤ 1000000) (hk : ∀ x ∈ ls, okLet x) : decP (packB ls) = some ls := by
  have e : rdNum (some (packB ls)) = ((ls.length : Int), some (letsB ls)) := by
    unfold packB
    exact rdNum_numB (by omega) _
  have h2 := letsN_letsB ls.length ls (Nat.le_refl _) hk []
  have hge := letsB_ge ls
  unfold decP
  rw [e]
  simp only [Option.getD_some, Int.toNat_natCast]
  rw [if_neg (by omega)]
  rw [List.append_nil, List.take_length, List.drop_length] at h2
  rw [h2]
  simp [letsB]
theorem decI_packB {ls : List LetT.den} (h : ls.length ≤ 8) (hk : ∀ x ∈ ls, okLet x) : decI (packB ls) = some ls := by
  unfold decI
  rw [decP_packB (by omega) hk]
  exact if_pos h
theorem okEv_r {a v : Int} (h : okEv (a, v) = true) : 0 ≤ a ∧ a < 8 := by
  simpa [okEv] using h
theorem evsN_evsB : ∀ (n : Nat) (ev : List EvT.den), n ≤ ev.length → ev.all okEv = true → (∀ e ∈ ev, in64 e.2) → ∀ r, evsN (some (evsB ev ++ r)) n = some (ev.take n, some (evsB (ev.drop n) ++ r))
  | 0, ev, h, hk, hv, r => by simp [evsN]
  | n + 1, ev, h, hk, hv, r => by
    have ih := evsN_evsB n ev (by omega) hk hv r
    have hlt : n < ev.length := by omega
    have e : ev.drop n = ev[n] :: ev.drop (n + 1) := List.drop_eq_getElem_cons hlt
    have e2 : evsB (ev.drop n) ++ r = numB ev[n].1 ++ (numB (zig ev[n].2) ++ (evsB (ev.drop (n + 1)) ++ r)) := by
      rw [e]
      simp only [evsB, List.flatMap_cons, List.append_assoc]
    have ho := okEv_r (a := ev[n].1) (v := ev[n].2) (List.all_eq_true.1 hk _ (List.getElem_mem hlt))
    have h64 := hv _ (List.getElem_mem hlt)
    simp only [evsN, ih, e2, rdNum_numB (n := ev[n].1) ⟨ho.1, by omega⟩, rdInt_zig h64]
    rw [if_neg (Int.not_le.2 ho.2), List.take_succ_eq_append_getElem hlt]
theorem decJ_jB {b : List Int} {ev : List EvT.den} {v : Int} (h8 : b.length = 8) (hev : ev.all okEv = true) (h16 : ev.length ≤ 16) (hv : (ev.length : Int) ≤ v ∧ v ≤ 18446744073709551615) (hr : rngJ b ev) : decJ (jB b ev v) = some (v, b, ev) := by
  have e1 : rdNum (some (jB b ev v)) = (v, some (intsB b ++ (numB ev.length ++ evsB ev))) := by
    unfold jB
    rw [List.append_assoc, List.append_assoc]
    exact rdNum_numB (by omega) _
  have e2 := rdInts_intsB 8 b (by omega) hr.1 (numB ev.length ++ evsB ev)
  rw [List.take_of_length_le (by omega), List.drop_of_length_le (by omega)] at e2
  have e2' : rdInts 8 (some (intsB b ++ (numB ev.length ++ evsB ev))) = (b, some (numB ev.length ++ evsB ev)) := by
    rw [e2]
    simp [intsB]
  have e3 : rdNum (some (numB ev.length ++ evsB ev)) = ((ev.length : Int), some (evsB ev)) := rdNum_numB (by omega) _
  have e4 := evsN_evsB ev.length ev (Nat.le_refl _) hev hr.2 []
  rw [List.append_nil, List.take_length, List.drop_length] at e4
  unfold decJ
  simp only [e1, e2', e3, Int.toNat_natCast]
  rw [if_neg (by omega), e4]
  simp [evsB]
theorem rdText_txB {bs : List UInt8} (h : bs.length ≤ 1000000000) (r : List UInt8) : rdText (some (txB bs ++ r)) = (⟨bs.toArray⟩, some r) := by
  unfold txB
  exact rdText_textB (by show bs.toArray.size ≤ _; simpa using h) r
/-- What an actor is whose bytes are read again. -/
structure EncOk (S : ActS) (ls : List LastT.den) (B : Int) : Prop where
  good : GoodA S ls B
  rng : RngA S
  snd : sndS S.tries S.inb.length S.poi = true
  ver : (S.ev.length : Int) ≤ S.v ∧ S.v ≤ 18446744073709551615
  inb : ∀ x ∈ S.inb, okLet x
  poi : ∀ x ∈ S.poi, okLet x
theorem c66_ok {p : Bool} {bs : List UInt8} {v : Int} {b : List Int} {ev : List EvT.den} {K : SV → List SB → Prop} (h : decJ bs = some (v, b, ev)) (k : K (.tup [.ptr 0 0, .int .i64 0]) (jH true b ev v)) : C66 [.sl p 1 .byte bs] [] K := by
  refine ⟨fun h9 => ?_, fun v' b' ev' h9 => ?_⟩
  · rw [h] at h9
    cases h9
  · rw [h] at h9
    cases h9
    exact k
theorem c68_ok {p : Bool} {bs : List UInt8} {l : List LetT.den} {K : SV → List SB → Prop} (h : decI bs = some l) (hb : bs.length ≤ 1000000000000) (k : K (.tup [.ptr 0 0, .int .i64 0]) (inH true l)) : C68 [.sl p 1 .byte bs] [] K := by
  refine ⟨hb, fun h9 => ?_, fun l' h9 => ?_⟩
  · rw [h] at h9
    cases h9
  · rw [h] at h9
    cases h9
    exact k
theorem c69_ok {p : Bool} {bs : List UInt8} {l : List LetT.den} {K : SV → List SB → Prop} (h : decP bs = some l) (hb : bs.length ≤ 1000000000000) (k : K (.tup [.own 0, .int .i64 0]) [.row true 56 LetT l]) : C69 [.sl p 1 .byte bs] [] K := by
  refine ⟨hb, fun h9 => ?_, fun l' h9 => ?_⟩
  · rw [h] at h9
    cases h9
  · rw [h] at h9
    cases h9
    exact k
/-- actor.Decode, of an actor's bytes -/
def C17 : Contract := fun args hp K => match args, hp with
  | [.sl p 1 .byte bs], [] => ∃ S ls B, EncOk S ls B ∧ bs = actB S (outR S.o S.l ls) ∧ K (.tup [.ptr 0 0, .int .i64 0]) (acH true { S with m := ls })
  | _, _ => False
theorem s17 : Sound Tryz.prog 17 C17 := by
  refine sound_of_okF ok17 (Γ := [(64, C64), (65, C65), (67, C67), (66, C66), (68, C68), (33, C33), (69, C69), (70, C70), (56, C56)]) (.cons s64 (callable_of_okF ok64) (.cons s65 (callable_of_okF ok65) (.cons s67 (callable_of_okF ok67) (.cons s66 (callable_of_okF ok66) (.cons s68 (callable_of_okF ok68) (.cons s33 (callable_of_okF ok33) (.cons s69 (callable_of_okF ok69) (.cons s70 (callable_of_okF ok70) (.cons s56 (callable_of_okF ok56) .nil))))))))) ?_
  intro args hp K h
  unfold C17 at h
  split at h
  · rename_i p bs
    obtain ⟨S, ls, B, hE, hbs, h⟩ := h
    have hG := hE.good
    have hsd := hE.snd
    simp only [sndS, Bool.and_eq_true, decide_eq_true_eq] at hsd
    have e1 : rdNum (some bs) = (S.tries, some (txB (jB S.b S.ev S.v) ++ (txB (packB S.inb) ++ (txB (outR S.o S.l ls) ++ txB (packB S.poi))))) := by
      rw [hbs]
      unfold actB
      rw [List.append_assoc, List.append_assoc, List.append_assoc]
      exact rdNum_numB (by omega) _
    have dj := decJ_jB hG.b8 hG.ev hG.e16 hE.ver hE.rng.j
    have di := decI_packB hG.in8 hE.inb
    have hx := dec_enc hG.inv hE.rng.l
    have dp := decP_packB (ls := S.poi) (by omega) hE.poi
    refine ⟨by simp, [], ?_⟩
    have hmx := maxLen_val
    simp (maxSteps := 2000000) only [a17, r17, C64, C65, e1, C67, rdH, go_sem, eq_self, Nat.le_refl, Nat.reduceLeDiff, Nat.reduceSub, Nat.reduceLT, Nat.reduceBEq, Nat.reduceAdd]
    rintro m hm _ m1 hm1 hz1
    rw [if_neg (by omega)] at hm
    subst hm
    rw [w64 (by omega)] at hm1
    subst hm1
    refine ⟨hz1, rfl, ?_⟩
    have lj := jB_length S.b S.ev S.v
    have lb8 := hG.b8
    have le16 := hG.e16
    have lin8 := hG.in8
    have lp8 := hsd.2.2.2.1
    have li := packB_length S.inb hG.inf
    have lo : (outR S.o S.l ls).length ≤ 20000 := by rw [← enc_rel hG.inv.keys hG.rel]; exact outE_len hG.ok.out
    have lp := packB_length S.poi hsd.2.2.2.2
    have t1 := rdText_txB (bs := jB S.b S.ev S.v) (by omega) (txB (packB S.inb) ++ (txB (outR S.o S.l ls) ++ txB (packB S.poi)))
    have t2 := rdText_txB (bs := packB S.inb) (by omega) (txB (outR S.o S.l ls) ++ txB (packB S.poi))
    have t3 := rdText_txB (bs := outR S.o S.l ls) (by omega) (txB (packB S.poi))
    have t4 := rdText_txB (bs := packB S.poi) (by omega) []
    rw [List.append_nil] at t4
    simp (maxSteps := 2000000) only [t1, go_sem]
    refine c66_ok dj ?_
    simp (maxSteps := 2000000) only [jH, C67, t2, rdH, go_sem, eq_self, and_self, Int.natCast_pos, Int.le_refl, Nat.le_refl, Int.reduceToNat, Nat.reduceSub, Nat.reduceLT, Nat.reduceBEq, Nat.reduceAdd]
    intro hz2
    refine ⟨hz2, rfl, c68_ok di (by omega) ?_⟩
    simp (maxSteps := 2000000) only [inH, C67, t3, rdH, Option.getD_some, Option.isNone_some, go_sem, eq_self, Nat.le_refl, Int.reduceLE, Int.reduceToNat, Nat.reduceLeDiff, Nat.reduceSub, Nat.reduceLT, Nat.reduceBEq, Nat.reduceAdd]
    refine nd_intro (by omega) (fun hz3 => ?_)
    refine ⟨hz3, rfl, c61_ok hx ?_⟩
    simp (maxSteps := 2000000) only [obH, C67, t4, rdH, Option.getD_some, Option.isNone_some, go_sem, eq_self, Nat.le_refl, Int.reduceLE, Int.reduceToNat, Nat.reduceLeDiff, Nat.reduceSub, Nat.reduceLT, Nat.reduceBEq, Nat.reduceAdd]
    refine nd_intro (by omega) (fun hz4 => ?_)
    refine ⟨hz4, rfl, c69_ok dp (by omega) ?_⟩
    simp (maxSteps := 2000000) only [C70, C56, rdH, go_sem, eq_self, Nat.le_refl, Int.reduceLE, Int.reduceToNat, Nat.reduceLeDiff, Nat.reduceSub, Nat.reduceMul, Nat.reduceLT, Nat.reduceBEq, Nat.reduceAdd]
    refine nd_intro (by omega) ?_
    rintro c rfl
    refine sw_intro (fun h9 => by simp at h9) (fun _ => .inl ?_)
    refine ⟨by omega, hG.ok.out.o0, ?_⟩
    rw [hE.snd]
    exact sw_intro (fun _ => h) (fun h9 => by cases h9)
  · exact h.elim
end Go.V
namespace Go.V
open Go.Proofs
set_option maxRecDepth 100000
set_option maxHeartbeats 8000000
set_option linter.unusedSimpArgs false
set_option linter.unnecessarySimpa false
set_option linter.unusedVariables false
/-! ### outcomes, alike -/
instance : DecidableEq TimT.den := inferInstanceAs (DecidableEq (ByteArray × Bool × Int × Int × Int))
theorem tim_eq {x y : TimT.den} : (decide (x.1 = y.1) && ((x.2.1 == y.2.1) && (decide (x.2.2.1 = y.2.2.1) && (decide (x.2.2.2.1 = y.2.2.2.1) && (decide (x.2.2.2.2 = y.2.2.2.2) && true))))) = decide (x = y) := by
  obtain ⟨a, b, c, d, e⟩ := x
  obtain ⟨a', b', c', d', e'⟩ := y
  rw [Bool.eq_iff_iff]
  simp only [Bool.and_eq_true, decide_eq_true_eq, beq_iff_eq, and_true, Prod.mk.injEq]
theorem take_both {t : Ty} {l l' : List t.den} {i : Nat} (e : l.take i = l'.take i) (h : l.length ≤ i) (h2 : l.length = l'.length) : l = l' := by
  rw [List.take_of_length_le h, List.take_of_length_le (by omega)] at e
  exact e
/-- SameTimers -/
def C42 : Contract := fun args hp K => match args, hp with
  | [x, y], [] => onL TimT 48 x fun l => onL TimT 48 y fun l' => K (.bool (decide (l = l'))) []
  | _, _ => False
def L42 (x y : SV) (l l' : List TimT.den) : LoopAnn := { G := Nat, I := fun i => ⟨[(0, x), (1, y), (12, .int .i64 l.length), (13, .int .i64 i)], []⟩, R := fun _ i => i ≤ l.length ∧ l.take i = l'.take i, μ := fun i => l.length - i }
theorem L42_I {x y l l'} (i : Nat) : (L42 x y l l').I i = ⟨[(0, x), (1, y), (12, .int .i64 l.length), (13, .int .i64 i)], []⟩ := rfl
theorem s42 : Sound Tryz.prog 42 C42 := by
  refine sound_of_okF ok42 (Γ := []) .nil ?_
  intro args hp K h
  unfold C42 at h
  split at h
  · rename_i x y
    have hmx := maxLen_val
    rcases h with ⟨rfl, ⟨rfl, h⟩ | ⟨q, l', rfl, h⟩⟩ | ⟨p, l, rfl, ⟨rfl, h⟩ | ⟨q, l', rfl, h⟩⟩
    · refine ⟨by simp, [(1, L42 .nils .nils ([] : List TimT.den) ([] : List TimT.den))], ?_⟩
      simp (maxSteps := 2000000) only [a42, r42, go_sem, eq_self, Nat.reduceBEq, Nat.reduceAdd]
      have hne : ¬ (([] : List TimT.den) = ([] : List TimT.den)) → K (.bool false) [] := fun hh => by rw [decide_eq_false hh] at h; exact h
      have hle : ([] : List TimT.den) = ([] : List TimT.den) → K (.bool true) [] := fun hh => by rw [decide_eq_true hh] at h; exact h
      have hlen : ([] : List TimT.den).length = ([] : List TimT.den).length := rfl
      refine loop_intro (A := L42 .nils .nils ([] : List TimT.den) ([] : List TimT.den)) (0 : Nat) ?_ ⟨Nat.zero_le _, rfl⟩ ?_
      · simp (maxSteps := 2000000) only [L42_I, go_sem, Nat.reduceBEq]
        rfl
      intro (i : Nat) (hi : i ≤ ([] : List TimT.den).length ∧ ([] : List TimT.den).take i = ([] : List TimT.den).take i)
      simp (maxSteps := 2000000) only [L42_I, go_sem, Int.ofNat_lt, Nat.reduceBEq]
      rintro c rfl
      refine sw_intro (fun hd => ?_) (fun hd => ?_) <;> simp only [decide_eq_true_eq, decide_eq_false_iff_not] at hd
      · exact absurd hd (by omega)
      refine hle ?_
      have e := hi.2
      exact take_both (t := TimT) e (by first | omega | (simp only [List.length_nil] at hd ⊢; omega)) hlen
    · refine ⟨by simp, [(1, L42 .nils (.sl q 48 TimT l') ([] : List TimT.den) (l' : List TimT.den))], ?_⟩
      simp (maxSteps := 2000000) only [a42, r42, go_sem, Nat.reduceBEq, Nat.reduceAdd]
      have hne : ¬ (([] : List TimT.den) = (l' : List TimT.den)) → K (.bool false) [] := fun hh => by rw [decide_eq_false hh] at h; exact h
      have hle : ([] : List TimT.den) = (l' : List TimT.den) → K (.bool true) [] := fun hh => by rw [decide_eq_true hh] at h; exact h
      rintro _ _ m rfl
      rintro c rfl
      refine sw_intro (fun hc => ?_) (fun hc => ?_) <;> simp only [Bool.not_eq_true', Bool.not_eq_false', decide_eq_true_eq, decide_eq_false_iff_not] at hc
      · exact hne (fun hh => hc (by have := congrArg List.length hh; first | omega | (simp only [List.length_nil] at this ⊢; omega)))
      have hlen : ([] : List TimT.den).length = (l' : List TimT.den).length := by first | omega | (simp only [List.length_nil] at hc ⊢; omega)
      refine loop_intro (A := L42 .nils (.sl q 48 TimT l') ([] : List TimT.den) (l' : List TimT.den)) (0 : Nat) ?_ ⟨Nat.zero_le _, rfl⟩ ?_
      · simp (maxSteps := 2000000) only [L42_I, go_sem, Nat.reduceBEq]
        rfl
      intro (i : Nat) (hi : i ≤ ([] : List TimT.den).length ∧ ([] : List TimT.den).take i = (l' : List TimT.den).take i)
      simp (maxSteps := 2000000) only [L42_I, go_sem, Int.ofNat_lt, Nat.reduceBEq]
      rintro c rfl
      refine sw_intro (fun hd => ?_) (fun hd => ?_) <;> simp only [decide_eq_true_eq, decide_eq_false_iff_not] at hd
      · exact absurd hd (by omega)
      refine hle ?_
      have e := hi.2
      exact take_both (t := TimT) e (by first | omega | (simp only [List.length_nil] at hd ⊢; omega)) hlen
    · refine ⟨by simp, [(1, L42 (.sl p 48 TimT l) .nils (l : List TimT.den) ([] : List TimT.den))], ?_⟩
      simp (maxSteps := 2000000) only [a42, r42, go_sem, Nat.reduceBEq, Nat.reduceAdd]
      have hne : ¬ ((l : List TimT.den) = ([] : List TimT.den)) → K (.bool false) [] := fun hh => by rw [decide_eq_false hh] at h; exact h
      have hle : (l : List TimT.den) = ([] : List TimT.den) → K (.bool true) [] := fun hh => by rw [decide_eq_true hh] at h; exact h
      rintro _ _ m rfl
      rintro c rfl
      refine sw_intro (fun hc => ?_) (fun hc => ?_) <;> simp only [Bool.not_eq_true', Bool.not_eq_false', decide_eq_true_eq, decide_eq_false_iff_not] at hc
      · exact hne (fun hh => hc (by have := congrArg List.length hh; first | omega | (simp only [List.length_nil] at this ⊢; omega)))
      have hlen : (l : List TimT.den).length = ([] : List TimT.den).length := by first | omega | (simp only [List.length_nil] at hc ⊢; omega)
      rintro _ _ m rfl
      refine loop_intro (A := L42 (.sl p 48 TimT l) .nils (l : List TimT.den) ([] : List TimT.den)) (0 : Nat) ?_ ⟨Nat.zero_le _, rfl⟩ ?_
      · simp (maxSteps := 2000000) only [L42_I, go_sem, Nat.reduceBEq]
        rfl
      intro (i : Nat) (hi : i ≤ (l : List TimT.den).length ∧ (l : List TimT.den).take i = ([] : List TimT.den).take i)
      simp (maxSteps := 2000000) only [L42_I, go_sem, eq_self, Nat.le_refl, Int.natCast_nonneg, Int.ofNat_lt, Nat.reduceLeDiff, Nat.reduceSub, Nat.reduceBEq, Nat.reduceAdd]
      rintro c rfl
      refine sw_intro (fun hd => ?_) (fun hd => ?_) <;> simp only [decide_eq_true_eq, decide_eq_false_iff_not] at hd
      · exact absurd hd (by simp only [List.length_nil] at hlen; omega)
      refine hle ?_
      have e := hi.2
      exact take_both (t := TimT) e (by first | omega | (simp only [List.length_nil] at hd ⊢; omega)) hlen
    · refine ⟨by simp, [(1, L42 (.sl p 48 TimT l) (.sl q 48 TimT l') (l : List TimT.den) (l' : List TimT.den))], ?_⟩
      simp (maxSteps := 2000000) only [a42, r42, go_sem, Nat.reduceBEq, Nat.reduceAdd]
      have hne : ¬ ((l : List TimT.den) = (l' : List TimT.den)) → K (.bool false) [] := fun hh => by rw [decide_eq_false hh] at h; exact h
      have hle : (l : List TimT.den) = (l' : List TimT.den) → K (.bool true) [] := fun hh => by rw [decide_eq_true hh] at h; exact h
      rintro _ _ m rfl
      rintro _ _ m rfl
      rintro c rfl
      refine sw_intro (fun hc => ?_) (fun hc => ?_) <;> simp only [Bool.not_eq_true', Bool.not_eq_false', decide_eq_true_eq, decide_eq_false_iff_not] at hc
      · exact hne (fun hh => hc (by have := congrArg List.length hh; first | omega | (simp only [List.length_nil] at this ⊢; omega)))
      have hlen : (l : List TimT.den).length = (l' : List TimT.den).length := by first | omega | (simp only [List.length_nil] at hc ⊢; omega)
      rintro _ _ m rfl
      refine loop_intro (A := L42 (.sl p 48 TimT l) (.sl q 48 TimT l') (l : List TimT.den) (l' : List TimT.den)) (0 : Nat) ?_ ⟨Nat.zero_le _, rfl⟩ ?_
      · simp (maxSteps := 2000000) only [L42_I, go_sem, Nat.reduceBEq]
        rfl
      intro (i : Nat) (hi : i ≤ (l : List TimT.den).length ∧ (l : List TimT.den).take i = (l' : List TimT.den).take i)
      simp (maxSteps := 2000000) only [L42_I, go_sem, eq_self, Nat.le_refl, Int.natCast_nonneg, Int.ofNat_lt, Nat.reduceLeDiff, Nat.reduceSub, Nat.reduceBEq, Nat.reduceAdd]
      rintro c rfl
      refine sw_intro (fun hd => ?_) (fun hd => ?_) <;> simp only [decide_eq_true_eq, decide_eq_false_iff_not] at hd
      · refine nd_intro hd (nd_intro (by omega) ?_)
        rw [tim_eq]
        rintro c rfl
        refine sw_intro (fun he => ?_) (fun he => ?_) <;> simp only [Bool.not_eq_true', Bool.not_eq_false', decide_eq_true_eq, decide_eq_false_iff_not] at he
        · exact hne (fun hh => he (by rw [hh]))
        rintro _ _ m hm
        rw [w64 (by omega)] at hm
        subst hm
        refine lpE_intro (A := L42 (.sl p 48 TimT l) (.sl q 48 TimT l') (l : List TimT.den) (l' : List TimT.den)) (i + 1 : Nat) (by simp (maxSteps := 2000000) only [L42_I, go_sem, Nat.reduceBEq]; rfl) ⟨hd, ?_⟩ (by show (l : List TimT.den).length - (i + 1) < (l : List TimT.den).length - i; omega)
        have e1 := take_elt (t := TimT) hd
        have e2 := take_elt (t := TimT) (l := l') (i := i) (by omega)
        show (l : List TimT.den).take (i + 1) = (l' : List TimT.den).take (i + 1)
        rw [← e1, ← e2, hi.2, he]
      refine hle ?_
      have e := hi.2
      exact take_both (t := TimT) e (by first | omega | (simp only [List.length_nil] at hd ⊢; omega)) hlen
  · exact h.elim
/-- Timers -/
def C43 : Contract := fun args hp K => match args, hp with
  | [x], [] => onL TimT 48 x fun l => K (.own 0) [.row true 48 TimT l]
  | _, _ => False
def L43 (x : SV) (l : List TimT.den) : LoopAnn := { G := Nat, I := fun i => ⟨[(0, x), (3, .own 0), (6, .int .i64 l.length), (7, .int .i64 i)], [.row true 48 TimT (l.take i)]⟩, R := fun _ i => i ≤ l.length, μ := fun i => l.length - i }
theorem L43_I {x l} (i : Nat) : (L43 x l).I i = ⟨[(0, x), (3, .own 0), (6, .int .i64 l.length), (7, .int .i64 i)], [.row true 48 TimT (l.take i)]⟩ := rfl
theorem s43 : Sound Tryz.prog 43 C43 := by
  refine sound_of_okF ok43 (Γ := []) .nil ?_
  intro args hp K h
  unfold C43 at h
  split at h
  · rename_i x
    have hmx := maxLen_val
    rcases h with ⟨rfl, h⟩ | ⟨q, l, rfl, h⟩
    · refine ⟨by simp, [(1, L43 .nils [])], ?_⟩
      simp (maxSteps := 2000000) only [a43, r43, go_sem, Nat.reduceBEq]
      refine loop_intro (A := L43 .nils []) (0 : Nat) ?_ (Nat.zero_le _) ?_
      · simp (maxSteps := 2000000) only [L43_I, go_sem, Nat.reduceBEq]
        rfl
      intro (i : Nat) (hi : i ≤ ([] : List TimT.den).length)
      simp (maxSteps := 2000000) only [L43_I, go_sem, Int.ofNat_lt, Nat.reduceBEq]
      rintro c rfl
      refine sw_intro (fun hd => ?_) (fun hd => ?_) <;> simp only [decide_eq_true_eq, decide_eq_false_iff_not] at hd
      · exact absurd hd (by omega)
      rw [List.take_nil]
      exact h
    · refine ⟨by simp, [(1, L43 (.sl q 48 TimT l) l)], ?_⟩
      simp (maxSteps := 2000000) only [a43, r43, go_sem, Nat.reduceBEq]
      rintro _ _ m rfl
      refine loop_intro (A := L43 (.sl q 48 TimT l) l) (0 : Nat) ?_ (Nat.zero_le _) ?_
      · simp (maxSteps := 2000000) only [L43_I, go_sem, Nat.reduceBEq]
        rfl
      intro (i : Nat) (hi : i ≤ (l : List TimT.den).length)
      simp (maxSteps := 2000000) only [L43_I, go_sem, eq_self, Nat.le_refl, Int.natCast_nonneg, Int.ofNat_lt, Nat.reduceLeDiff, Nat.reduceSub, Nat.reduceMul, Nat.reduceBEq, Nat.reduceAdd]
      rintro c rfl
      refine sw_intro (fun hd => ?_) (fun hd => ?_) <;> simp only [decide_eq_true_eq, decide_eq_false_iff_not] at hd
      · refine nd_intro hd ⟨fun _ => by rw [List.length_take]; omega, fun _ => ?_⟩
        rintro _ _ m hm
        rw [w64 (by omega)] at hm
        subst hm
        refine lpE_intro (A := L43 (.sl q 48 TimT l) l) (i + 1 : Nat) ?_ hd (by show (l : List TimT.den).length - (i + 1) < (l : List TimT.den).length - i; omega)
        have e1 := take_elt (t := TimT) hd
        simp (maxSteps := 2000000) only [L43_I, ← e1, go_sem, Nat.reduceBEq]
        rfl
      rw [List.take_of_length_le (by omega)]
      exact h
  · exact h.elim
/-- Ours -/
def C14 : Contract := fun args hp K => match args, hp with
  | [.agg [.bool d, .bool p, .int .i64 e, .int .i64 n, x]], [] => onL TimT 48 x fun l => K (.agg [.bool d, .bool p, .int .i64 e, .int .i64 n, .sl true 48 TimT l]) []
  | _, _ => False
theorem s14 : Sound Tryz.prog 14 C14 := by
  refine sound_of_okF ok14 (Γ := [(43, C43)]) (.cons s43 (callable_of_okF ok43) .nil) ?_
  intro args hp K h
  unfold C14 at h
  split at h
  · rename_i d p e n x
    rcases h with ⟨rfl, h⟩ | ⟨q, l, rfl, h⟩
    · refine ⟨by simp, [], ?_⟩
      simp (maxSteps := 2000000) only [a14, r14, C43, go_sem, eq_self, and_self, Nat.le_refl, Nat.reduceLeDiff, Nat.reduceSub, Nat.reduceLT, Nat.reduceBEq, Nat.reduceAdd]
      exact h
    · refine ⟨by simp, [], ?_⟩
      simp (maxSteps := 2000000) only [a14, r14, C43, go_sem, eq_self, and_self, Nat.le_refl, Nat.reduceLeDiff, Nat.reduceSub, Nat.reduceLT, Nat.reduceBEq, Nat.reduceAdd]
      exact h
  · exact h.elim
/-- SameOutcome -/
def C13 : Contract := fun args hp K => match args, hp with
  | [.agg [.bool d, .bool p, .int .i64 e, .int .i64 n, x], .agg [.bool d', .bool p', .int .i64 e', .int .i64 n', y]], [] => onL TimT 48 x fun l => onL TimT 48 y fun l' => K (.bool ((d == d') && ((p == p') && (decide (e = e') && (decide (n = n') && decide (l = l')))))) []
  | _, _ => False
theorem s13 : Sound Tryz.prog 13 C13 := by
  refine sound_of_okF ok13 (Γ := [(42, C42)]) (.cons s42 (callable_of_okF ok42) .nil) ?_
  intro args hp K h
  unfold C13 at h
  split at h
  · rename_i d p e n x d' p' e' n' y
    rcases h with ⟨rfl, ⟨rfl, h⟩ | ⟨q, l', rfl, h⟩⟩ | ⟨p, l, rfl, ⟨rfl, h⟩ | ⟨q, l', rfl, h⟩⟩
    all_goals
      refine ⟨by simp, [], ?_⟩
      simp (maxSteps := 2000000) only [a13, r13, C42, go_sem, eq_self, Nat.le_refl, Nat.reduceLeDiff, Nat.reduceSub, Nat.reduceBEq, Nat.reduceAdd]
      rintro c rfl
      refine sw_intro (fun h1 => ?_) (fun h1 => ?_)
      case refine_2 => rw [h1] at h; exact h
      rw [h1, Bool.true_and] at h
      rintro c rfl
      refine sw_intro (fun h2 => ?_) (fun h2 => ?_)
      case refine_2 => rw [h2] at h; exact h
      rw [h2, Bool.true_and] at h
      rintro c rfl
      refine sw_intro (fun h3 => ?_) (fun h3 => ?_)
      case refine_2 => rw [h3] at h; exact h
      rw [h3, Bool.true_and] at h
      rintro c rfl
      refine sw_intro (fun h4 => ?_) (fun h4 => ?_)
      case refine_2 => rw [h4] at h; exact h
      rw [h4, Bool.true_and] at h
      exact h
  · exact h.elim
end Go.V
namespace Go.V
open Go.Proofs
set_option maxRecDepth 100000
set_option maxHeartbeats 8000000
set_option linter.unusedSimpArgs false
set_option linter.unnecessarySimpa false
set_option linter.unusedVariables false
/-! ### behind a turn that is done -/
theorem sendS_inv {o : ByteArray} {p q : List OutT.den × List LastT.den} {x : SentT.den} {ls : List LastT.den} {B : Int} (h : Inv o p.1 ls B) (hr : Rel p.2 ls) (hB : B ≤ 18446744073709550000) (hB0 : 0 ≤ B) (hs : sendS o p x = some q) :
    ∃ ls2, Inv o q.1 ls2 (B + 1) ∧ Rel q.2 ls2 := by
  unfold sendS at hs
  split at hs
  · rename_i hc
    cases hs
    obtain ⟨hk, hb⟩ := hc
    have hlk := hr.2 x.1
    have e : sendW p.2 x.1 = IntKind.u64.wrap ((thereL ls x.1).getD (0 : Int) + 1) := by unfold sendW; rw [hlk]
    have hl : p.1.length < 32 := by
      rcases Nat.lt_or_ge p.1.length 32 with h9 | h9
      · exact h9
      · exact absurd (.inl h9) hb
    have hm : (setF ls x.1 (sendW p.2 x.1)).length ≤ 64 := by
      rw [setF_eq, setR_length]
      split
      · rename_i hn
        rcases Nat.lt_or_ge ls.length 64 with h9 | h9
        · omega
        · exact absurd (.inr ⟨by rw [hlk, thereL_eq]; exact hn, by rw [hr.1]; exact h9⟩) hb
      · exact h.m64
    exact ⟨_, h.send (by omega) hB0 hk (xs := [x.2.2]) (by simp) hl hm x.2.1 e, hr.set x.1 _⟩
  · cases hs
theorem sendO_inv {o : ByteArray} : ∀ (l : List SentT.den) (p q : List OutT.den × List LastT.den) (ls : List LastT.den) (B : Int), Inv o p.1 ls B → Rel p.2 ls → B + l.length ≤ 18446744073709550000 → 0 ≤ B → sendO o p l = some q → ∃ ls2, Inv o q.1 ls2 (B + l.length) ∧ Rel q.2 ls2
  | [], p, q, ls, B, h, hr, hB, hB0, hs => by
    cases hs
    exact ⟨ls, h.mono (by simp), hr⟩
  | x :: l, p, q, ls, B, h, hr, hB, hB0, hs => by
    simp only [sendO] at hs
    simp only [List.length_cons] at hB
    cases h1 : sendS o p x with
    | none => rw [h1] at hs; cases hs
    | some p1 =>
      rw [h1] at hs
      obtain ⟨ls1, i1, r1⟩ := sendS_inv h hr (by omega) hB0 h1
      obtain ⟨ls2, i2, r2⟩ := sendO_inv l p1 q ls1 (B + 1) i1 r1 (by omega) (by omega) hs
      exact ⟨ls2, i2.mono (by simp only [List.length_cons]; omega), r2⟩
/-- the actor behind a turn that is done -/
def doneS (S : ActS) (r : List LetT.den) (ev : List EvT.den) (p : List OutT.den × List LastT.den) : ActS := { S with inb := r, tries := 0, l := p.1, m := p.2, b := (jAdd S.b S.ev ev).1, ev := (jAdd S.b S.ev ev).2, v := IntKind.u64.wrap (S.v + (ev.length : Nat)) }
theorem done_good {S : ActS} {ls : List LastT.den} {B : Int} (h : GoodA S ls B) (hB : 0 ≤ B ∧ B ≤ 18446744073709540000) {f : ByteArray} {s k : Int} {xs : List Int} {r : List LetT.den} (hr : S.inb = (f, s, k, xs) :: r) {ev : List EvT.den} (hev : ev.all okEv = true) {sent : List SentT.den} (h5 : sent.length ≤ 500)
    {p : List OutT.den × List LastT.den} (hs : sendO S.o (S.l, ls) sent = some p) : ∃ ls2, GoodA (doneS S r ev p) ls2 (B + 500) := by
  obtain ⟨ls2, i2, r2⟩ := sendO_inv sent (S.l, ls) p ls B h.inv (Rel.self h.inv.keys) (by omega) hB.1 hs
  have jl := jAdd_len S.b S.ev ev
  have hin := h.in8
  have hinf := h.inf
  rw [hr] at hin hinf
  simp only [List.length_cons] at hin
  simp only [List.all_cons, Bool.and_eq_true] at hinf
  refine ⟨ls2, jl.2.trans h.b8, jAdd_ok (b := S.b) h.ev hev, jl.1, ?_, hinf.2, i2.mono (by omega), r2⟩
  show r.length ≤ 8
  omega
theorem done_ok {S : ActS} {ls : List LastT.den} (h : GoodA S ls 140737488355328) {names : List ByteArray} {code : List EvT.den} {now : Int} (ok : takeOk S names code now) {f : ByteArray} {s k : Int} {xs : List Int} {r : List LetT.den} (hr : S.inb = (f, s, k, xs) :: r)
    {X : Mc × Int} (hX : X = runI 501 (startM names code f s k xs now (appE S.b S.ev))) (h0 : X.2 = 0) {p : List OutT.den × List LastT.den} (hs : sendO S.o (S.l, ls) X.1.sent = some p) : ∃ ls2, GoodA (doneS S r X.1.ev p) ls2 (140737488355328 + 500) := by
  have hff := formP_iff.1 ok.2.1
  have hro : RunOk X.1 := by
    rw [hX]
    exact runI_ok hff.1.2 hff.2.2 501 _ (startM_inv (by rw [appE_length]; exact h.b8)) rfl
  exact done_good h (by omega) hr hro.ev hro.s5 hs
end Go.V
