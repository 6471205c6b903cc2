/- A part of the proof layer, or functions of the given program in it: contracts and their proofs. -/
import Derived.Test.YtbcmjkfdeikkhaaGreatA27
namespace Go.V
open Go.Proofs
set_option maxRecDepth 100000
set_option linter.unusedSimpArgs false
set_option linter.unnecessarySimpa false
set_option linter.unusedVariables false
def decK2 (h : ByteArray → List OutT.den → List LastT.den → List SB) (r : Option (ByteArray × List OutT.den × List LastT.den)) (K : SV → List SB → Prop) : Prop :=
  (r = none → K (.tup [.nilp, .int .i64 2]) []) ∧ (∀ o l ls, r = some (o, l, ls) → K (.tup [.ptr 0 0, .int .i64 0]) (h o l ls))
/-- Decode -/
def C33 : Contract := fun args hp K => match args, hp with
  | [.sl p 1 .byte bs], [] => decK2 (fun o l ls => obH true o l ls) (decOut bs) K
  | _, _ => False
def A33 (o : ByteArray) (st : Option (List UInt8)) (n : Nat) : LoopAnn := { G := Nat × (List LastT.den × Option (List UInt8)), I := fun g => ⟨[(4, .ptr 0 0), (5, .ptr 1 0), (8, .str (lastK g.2.1)), (33, .int .u64 n), (34, .int .u64 g.1)], rdH g.2.2 :: [.struct [.str o, .own 2, .mp 3], .row true 72 OutT [], .map false .str (.int .u64) g.2.1]⟩, R := fun _ g => g.1 ≤ n ∧ keysN st g.1 = some g.2, μ := fun g => n - g.1 }
theorem A33_I {o st n} (g : Nat × (List LastT.den × Option (List UInt8))) : (A33 o st n).I g = ⟨[(4, .ptr 0 0), (5, .ptr 1 0), (8, .str (lastK g.2.1)), (33, .int .u64 n), (34, .int .u64 g.1)], rdH g.2.2 :: [.struct [.str o, .own 2, .mp 3], .row true 72 OutT [], .map false .str (.int .u64) g.2.1]⟩ := rfl
structure G2 where
  i : Nat
  l : List OutT.den
  st : Option (List UInt8)
  w : List (ByteArray × Int)
def B33 (o : ByteArray) : LoopAnn := { G := (List LastT.den × Option (List UInt8) × Nat) × G2, I := fun g => ⟨[(4, .ptr 0 0), (5, .ptr 1 0), (11, .mp 4), (69, .int .u64 g.1.2.2), (70, .int .u64 g.2.i)], rdH g.2.st :: [.struct [.str o, .own 2, .mp 3], .row true 72 OutT g.2.l, .map false .str (.int .u64) g.1.1, .map false .str (.int .u64) g.2.w]⟩, R := fun g0 g => g.1 = g0.1 ∧ g.2.i ≤ g.1.2.2 ∧ outsN o g.1.1 g.1.2.1 g.2.i = some (g.2.l, g.2.st) ∧ (∀ to, (lookM .str (.int .u64) g.2.w to).getD (0 : Int) = (cntT to g.2.l : Nat)) ∧ g.2.w.length ≤ g.2.i, μ := fun g => g.1.2.2 - g.2.i }
theorem B33_I {o} (g : (List LastT.den × Option (List UInt8) × Nat) × G2) : (B33 o).I g = ⟨[(4, .ptr 0 0), (5, .ptr 1 0), (11, .mp 4), (69, .int .u64 g.1.2.2), (70, .int .u64 g.2.i)], rdH g.2.st :: [.struct [.str o, .own 2, .mp 3], .row true 72 OutT g.2.l, .map false .str (.int .u64) g.1.1, .map false .str (.int .u64) g.2.w]⟩ := rfl
def D33 (o : ByteArray) : LoopAnn := { G := (List LastT.den × Option (List UInt8) × List OutT.den) × (Nat × List (ByteArray × Int)), I := fun g => ⟨[(4, .ptr 0 0), (5, .ptr 1 0), (11, .mp 4), (125, .own 2), (126, .int .i64 g.1.2.2.length), (127, .int .i64 g.2.1)], rdH g.1.2.1 :: [.struct [.str o, .own 2, .mp 3], .row true 72 OutT g.1.2.2, .map false .str (.int .u64) g.1.1, .map false .str (.int .u64) g.2.2]⟩, R := fun g0 g => g.1 = g0.1 ∧ g.2.1 ≤ g.1.2.2.length ∧ serOk g.1.1 g.1.2.2 = serOk g.1.1 (g.1.2.2.drop g.2.1) ∧ (∀ to, (lookM .str (.int .u64) g.2.2 to).getD (0 : Int) = (cntT to (g.1.2.2.drop g.2.1) : Nat)) ∧ g.2.2.length ≤ 100 + g.2.1, μ := fun g => g.1.2.2.length - g.2.1 }
theorem D33_I {o} (g : (List LastT.den × Option (List UInt8) × List OutT.den) × (Nat × List (ByteArray × Int))) : (D33 o).I g = ⟨[(4, .ptr 0 0), (5, .ptr 1 0), (11, .mp 4), (125, .own 2), (126, .int .i64 g.1.2.2.length), (127, .int .i64 g.2.1)], rdH g.1.2.1 :: [.struct [.str o, .own 2, .mp 3], .row true 72 OutT g.1.2.2, .map false .str (.int .u64) g.1.1, .map false .str (.int .u64) g.2.2]⟩ := rfl
theorem cntT_snoc (to : ByteArray) (x : OutT.den) : ∀ l : List OutT.den, cntT to (l ++ [x]) = cntT to l + (if x.1 = to then 1 else 0)
  | [] => by simp only [List.nil_append, cntT]; split <;> rfl
  | y :: r => by
    simp only [List.cons_append, cntT]
    rw [cntT_snoc to x r]
    split <;> omega
theorem cntT_le (to : ByteArray) : ∀ l : List OutT.den, cntT to l ≤ l.length
  | [] => Nat.le_refl _
  | y :: r => by have := cntT_le to r; simp only [cntT, List.length_cons]; split <;> omega
theorem look_new {ls : List LastT.den} {n : Nat} (h : KeysOk ls n) {k : ByteArray} (hk : ltS (lastK ls) k = true) : lookM .str (.int .u64) ls k = none := by
  have hl := ltS_last h.srt hk
  unfold lookM
  cases hf : ls.find? (fun e => Ty.beq .str e.1 k) with
  | none => rfl
  | some y =>
    exfalso
    have h1 := List.find?_some hf
    have h2 := List.mem_of_find?_eq_some hf
    simp only [beq_str, decide_eq_true_eq] at h1
    have := hl y h2
    rw [h1, ltS_irr] at this
    cases this
theorem outsN_len {o : ByteArray} {ls : List LastT.den} {st : Option (List UInt8)} : ∀ {n : Nat} {p : List OutT.den × Option (List UInt8)}, outsN o ls st n = some p → p.1.length = n
  | 0, p, h => by simp only [outsN, Option.some.injEq] at h; subst h; rfl
  | n + 1, p, h => by
    rw [outsN] at h
    cases hq : outsN o ls st n with
    | none => rw [hq] at h; cases h
    | some q =>
      rw [hq] at h
      have ih := outsN_len hq
      have h' : outStep o ls q = some p := h
      unfold outStep at h'
      simp only at h'
      cases hd : decL (rdText (rdText q.2).2).1.data.toList with
      | none => rw [hd] at h'; cases h'
      | some l =>
        rw [hd] at h'
        simp only at h'
        split at h'
        · cases h'
        · simp only [Option.some.injEq] at h'
          rw [← h']
          simp [ih]
theorem leq_lt {k last : ByteArray} : (ltS k last || decide (k = last)) = !ltS last k := by
  cases h1 : ltS last k with
  | true =>
    have h2 := ltS_asy h1
    have h3 : k ≠ last := fun e => by rw [e, ltS_irr] at h1; cases h1
    simp [h2, h3]
  | false =>
    cases h2 : ltS k last with
    | true => rfl
    | false => simp [ltS_tot h2 h1]
theorem updM_len {vt : Ty} (m : List (ByteArray × vt.den)) (k : ByteArray) (v : vt.den) : (updM .str vt m k v).length ≤ m.length + 1 := by
  by_cases h : lookM .str vt m k = none
  · rw [updM_length_new h]; exact Nat.le_refl _
  · rw [updM_length_old h]; omega
theorem s33 : Sound Tryz.prog 33 C33 := by
  refine sound_of_okF ok33 (Γ := [(64, C64), (67, C67), (71, C71), (65, C65), (93, C93), (80, C80), (94, C94), (70, C70)]) (.cons s64 (callable_of_okF ok64) (.cons s67 (callable_of_okF ok67) (.cons s71 (callable_of_okF ok71) (.cons s65 (callable_of_okF ok65) (.cons s93 (callable_of_okF ok93) (.cons s80 (callable_of_okF ok80) (.cons s94 (callable_of_okF ok94) (.cons s70 (callable_of_okF ok70) .nil)))))))) ?_
  intro args hp K h
  unfold C33 at h
  split at h
  · rename_i p bs
    refine ⟨by simp, [(1, A33 (rdText (some bs)).1 (rdNum (rdText (some bs)).2).2 (rdNum (rdText (some bs)).2).1.toNat), (2, B33 (rdText (some bs)).1), (3, D33 (rdText (some bs)).1)], ?_⟩
    simp (maxSteps := 2000000) only [a33, r33, C64, C67, C71, C65, C93, C80, rdH, obH, go_sem, eq_self, and_self, Int.natCast_pos, Int.le_refl, Nat.le_refl, Int.natCast_nonneg, Int.ofNat_lt, Int.ofNat_le, Int.reduceLT, Int.reduceLE, Int.reduceEq, Int.reduceNe, Int.reduceAdd, Int.reduceSub, Int.reduceMul, Int.reduceToNat, Int.reduceNeg, Nat.reduceEqDiff, Nat.reduceLeDiff, Nat.reduceSub, Nat.reduceMul, Nat.reduceLT, Nat.reduceBEq, Nat.reduceAdd]
    unfold decOut at h
    simp only at h
    have hr := rdNum_in (rdText (some bs)).2
    generalize rdText (some bs) = a at *
    generalize rdNum a.2 = c at *
    intro _
    refine ⟨fun hk => ?_, fun hk => h.1 (by rw [if_pos (.inl hk)])⟩
    rintro cc rfl
    refine sw_intro (fun hc => ?_) (fun hc => ?_) <;> simp only [decide_eq_true_eq, decide_eq_false_iff_not] at hc
    · exact h.1 (by rw [if_pos (.inr hc)])
    · rw [if_neg (fun hh => hh.elim (fun h9 => by rw [hk] at h9; cases h9) hc)] at h
      refine loop_intro (A := A33 a.1 c.2 c.1.toNat) ((0 : Nat), ([], c.2)) ?_ ⟨Nat.zero_le _, rfl⟩ ?_
      · simp (maxSteps := 2000000) only [A33_I, rdH, go_sem, eq_self, and_self, Int.natCast_pos, Int.le_refl, Nat.le_refl, Int.natCast_nonneg, Int.ofNat_lt, Int.ofNat_le, Int.reduceLT, Int.reduceLE, Int.reduceEq, Int.reduceNe, Int.reduceAdd, Int.reduceSub, Int.reduceMul, Int.reduceToNat, Int.reduceNeg, Nat.reduceEqDiff, Nat.reduceLeDiff, Nat.reduceSub, Nat.reduceMul, Nat.reduceLT, Nat.reduceBEq, Nat.reduceAdd]
        rw [show ((c.1.toNat : Nat) : Int) = c.1 by omega]
        rfl
      · rintro ⟨i, ls, st⟩ ⟨hi, hks⟩
        simp only at hi hks
        simp (maxSteps := 2000000) only [A33_I, rdH, C67, C65, C93, C80, go_sem, eq_self, and_self, Int.natCast_pos, Int.le_refl, Nat.le_refl, Int.natCast_nonneg, Int.ofNat_lt, Int.ofNat_le, Int.reduceLT, Int.reduceLE, Int.reduceEq, Int.reduceNe, Int.reduceAdd, Int.reduceSub, Int.reduceMul, Int.reduceToNat, Int.reduceNeg, Nat.reduceEqDiff, Nat.reduceLeDiff, Nat.reduceSub, Nat.reduceMul, Nat.reduceLT, Nat.reduceBEq, Nat.reduceAdd]
        have hko := keysN_ok hks
        simp only at hko
        have hlen := hko.len
        have hmx := maxLen_val
        rintro cc rfl
        refine sw_intro (fun hc2 => ?_) (fun hc2 => ?_) <;> simp only [decide_eq_true_eq, decide_eq_false_iff_not] at hc2
        · have fail : keyStep (ls, st) = none → K (.tup [.nilp, .int .i64 2]) [] := fun hn => h.1 (by
            have h1 : keysN c.2 (i + 1) = none := by rw [keysN, hks]; exact hn
            rw [keysN_none h1 c.1.toNat (by omega)])
          unfold keyStep at fail
          simp only at fail
          have hrn := rdNum_in (rdText st).2
          intro _
          refine sw_intro (fun hb => fail (if_pos (.inl hb))) (fun hb => ?_)
          refine sw_intro (fun hb2 => ?_) (fun hb2 => fail (if_pos (.inr (.inl hb2))))
          rintro cc rfl
          refine sw_intro (fun hb3 => fail (if_pos (.inr (.inr (.inl (by simpa using hb3)))))) (fun hb3 => ?_)
          rintro cc hcc
          rw [leq_lt] at hcc
          subst hcc
          refine sw_intro (fun hb4 => fail (if_pos (.inr (.inr (.inr (by simpa using hb4)))))) (fun hb4 => ?_)
          have hlt : ltS (lastK ls) (rdText st).1 = true := by simpa using hb4
          refine ⟨by omega, ?_⟩
          rintro _ _ m hm
          rw [wu64 (by omega)] at hm
          subst hm
          have hks' : keysN c.2 (i + 1) = some (ls ++ [((rdText st).1, (rdNum (rdText st).2).1)], (rdNum (rdText st).2).2) := by
            rw [keysN, hks]
            show keyStep (ls, st) = _
            unfold keyStep
            simp only
            exact if_neg (fun hh => by
              rcases hh with h9 | h9 | h9 | h9
              · rw [hb] at h9; cases h9
              · rw [hb2] at h9; cases h9
              · simp [h9] at hb3
              · rw [hlt] at h9; cases h9)
          refine lpE_intro (A := A33 a.1 c.2 c.1.toNat) (i + 1, (ls ++ [((rdText st).1, (rdNum (rdText st).2).1)], (rdNum (rdText st).2).2)) ?_ ⟨by simp only; omega, hks'⟩ (by show c.1.toNat - (i + 1) < c.1.toNat - i; omega)
          simp (maxSteps := 2000000) only [A33_I, rdH, go_sem, eq_self, and_self, Int.natCast_pos, Int.le_refl, Nat.le_refl, Int.natCast_nonneg, Int.ofNat_lt, Int.ofNat_le, Int.reduceLT, Int.reduceLE, Int.reduceEq, Int.reduceNe, Int.reduceAdd, Int.reduceSub, Int.reduceMul, Int.reduceToNat, Int.reduceNeg, Nat.reduceEqDiff, Nat.reduceLeDiff, Nat.reduceSub, Nat.reduceMul, Nat.reduceLT, Nat.reduceBEq, Nat.reduceAdd]
          rw [lastK_snoc, updM_new (vt := .int .u64) (look_new hko hlt)]
          rfl
        · obtain rfl : i = c.1.toNat := by omega
          rw [hks] at h
          simp only at h
          have hrd := rdNum_in st
          generalize rdNum st = d at *
          rintro cc rfl
          refine sw_intro (fun hd => ?_) (fun hd => ?_) <;> simp only [decide_eq_true_eq, decide_eq_false_iff_not] at hd
          · exact h.1 (by rw [if_pos hd])
          · rw [if_neg hd] at h
            refine loop_intro (A := B33 a.1) ((ls, d.2, d.1.toNat), ⟨0, [], d.2, []⟩) ?_ ⟨rfl, Nat.zero_le _, rfl, fun to => rfl, Nat.le_refl _⟩ ?_
            · simp (maxSteps := 2000000) only [B33_I, rdH, go_sem, eq_self, and_self, Int.natCast_pos, Int.le_refl, Nat.le_refl, Int.natCast_nonneg, Int.ofNat_lt, Int.ofNat_le, Int.reduceLT, Int.reduceLE, Int.reduceEq, Int.reduceNe, Int.reduceAdd, Int.reduceSub, Int.reduceMul, Int.reduceToNat, Int.reduceNeg, Nat.reduceEqDiff, Nat.reduceLeDiff, Nat.reduceSub, Nat.reduceMul, Nat.reduceLT, Nat.reduceBEq, Nat.reduceAdd]
              rw [show ((d.1.toNat : Nat) : Int) = d.1 by omega]
              rfl
            · rintro ⟨⟨ls', st0, n'⟩, ⟨j, l, st', w⟩⟩ ⟨h1, h2, h3, h4, h5⟩
              simp only [Prod.mk.injEq] at h1 h2 h3 h4 h5
              obtain ⟨rfl, rfl, rfl⟩ := h1
              simp (maxSteps := 2000000) only [B33_I, rdH, C67, C65, C93, C80, C94, decK, go_sem, eq_self, and_self, Int.natCast_pos, Int.le_refl, Nat.le_refl, Int.natCast_nonneg, Int.ofNat_lt, Int.ofNat_le, Int.reduceLT, Int.reduceLE, Int.reduceEq, Int.reduceNe, Int.reduceAdd, Int.reduceSub, Int.reduceMul, Int.reduceToNat, Int.reduceNeg, Nat.reduceEqDiff, Nat.reduceLeDiff, Nat.reduceSub, Nat.reduceMul, Nat.reduceLT, Nat.reduceBEq, Nat.reduceAdd]
              have hll := outsN_len h3
              simp only at hll
              rintro cc rfl
              refine sw_intro (fun hj => ?_) (fun hj => ?_) <;> simp only [decide_eq_true_eq, decide_eq_false_iff_not] at hj
              · have fail : outStep a.1 ls' (l, st') = none → K (.tup [.nilp, .int .i64 2]) [] := fun hn => h.1 (by
                  have h1 : outsN a.1 ls' d.2 (j + 1) = none := by rw [outsN, h3]; exact hn
                  rw [outsN_none h1 d.1.toNat (by omega)])
                have succ : ∀ q, outStep a.1 ls' (l, st') = some q → outsN a.1 ls' d.2 (j + 1) = some q := fun q hq => by
                  rw [outsN, h3]; exact hq
                unfold outStep at fail succ
                simp only at fail succ
                intro _ hs2
                refine ⟨hs2, rfl, fun hn => ?_, fun lt hlt => ?_⟩
                · have := fail (by rw [hn])
                  exact sw_intro (fun _ => this) (fun _ => this)
                · rw [hlt] at fail succ
                  simp only at fail succ
                  refine sw_intro (fun hb => fail (if_pos (.inl hb))) (fun hb => ?_)
                  rintro cc rfl
                  refine sw_intro (fun hb2 => fail (if_pos (.inr (.inl (by simpa using hb2))))) (fun hb2 => ?_)
                  rintro y b hy _ cc rfl
                  refine sw_intro (fun hb3 => fail (if_pos (.inr (.inr (by rw [← hy]; simpa using hb3))))) (fun hb3 => ?_)
                  have succ := succ _ (if_neg (fun hh => by
                    rcases hh with h9 | h9 | h9
                    · rw [hb] at h9; cases h9
                    · simp only [Bool.not_eq_false', decide_eq_true_eq] at hb2
                      exact h9 hb2
                    · rw [← hy] at h9
                      simp [h9] at hb3))
                  rintro y2 b2 hy2 _ hi2 _ m hm
                  have hcn := h4 (rdText st').1
                  have hcl := cntT_le (rdText st').1 l
                  rw [hcn] at hy2
                  subst hy2
                  rw [wu64 (by omega)] at hm
                  refine ⟨by omega, fun _ => by omega, fun _ _ _ m1 hm1 => ?_⟩
                  rw [wu64 (by omega)] at hm1
                  subst hm1
                  refine lpE_intro (A := B33 a.1) ((ls', d.2, d.1.toNat), ⟨j + 1, l ++ [((rdText st').1, lt)], (rdText (rdText st').2).2, updM .str (.int .u64) w (rdText st').1 m⟩) ?_ ⟨rfl, by simp only; omega, succ, fun to => ?_, ?_⟩ (by show d.1.toNat - (j + 1) < d.1.toNat - j; omega)
                  · simp (maxSteps := 2000000) only [B33_I, rdH, go_sem, eq_self, and_self, Int.natCast_pos, Int.le_refl, Nat.le_refl, Int.natCast_nonneg, Int.ofNat_lt, Int.ofNat_le, Int.reduceLT, Int.reduceLE, Int.reduceEq, Int.reduceNe, Int.reduceAdd, Int.reduceSub, Int.reduceMul, Int.reduceToNat, Int.reduceNeg, Nat.reduceEqDiff, Nat.reduceLeDiff, Nat.reduceSub, Nat.reduceMul, Nat.reduceLT, Nat.reduceBEq, Nat.reduceAdd]
                    rfl
                  · simp only
                    rw [cntT_snoc]
                    by_cases ht : to = (rdText st').1
                    · subst ht
                      rw [lookM_upd_self (vt := .int .u64), if_pos rfl, hm]
                      rfl
                    · rw [lookM_upd_ne (vt := .int .u64) _ _ ht, h4, if_neg (Ne.symm ht)]
                      rfl
                  · simp only
                    have := updM_len (vt := .int .u64) w (rdText st').1 m
                    omega
              · obtain rfl : j = d.1.toNat := by omega
                rw [h3] at h
                simp only at h
                rintro _ _ m rfl
                refine loop_intro (A := D33 a.1) ((ls', st', l), (0, w)) ?_ ⟨rfl, Nat.zero_le _, rfl, h4, by simp only; omega⟩ ?_
                · simp (maxSteps := 2000000) only [D33_I, rdH, go_sem, eq_self, and_self, Int.natCast_pos, Int.le_refl, Nat.le_refl, Int.natCast_nonneg, Int.ofNat_lt, Int.ofNat_le, Int.reduceLT, Int.reduceLE, Int.reduceEq, Int.reduceNe, Int.reduceAdd, Int.reduceSub, Int.reduceMul, Int.reduceToNat, Int.reduceNeg, Nat.reduceEqDiff, Nat.reduceLeDiff, Nat.reduceSub, Nat.reduceMul, Nat.reduceLT, Nat.reduceBEq, Nat.reduceAdd]
                  rfl
                · rintro ⟨⟨ls2, st2, l2⟩, ⟨j2, w2⟩⟩ ⟨k1, k2, k3, k4, k5⟩
                  simp only [Prod.mk.injEq] at k1 k2 k3 k4 k5
                  obtain ⟨rfl, rfl, rfl⟩ := k1
                  simp (maxSteps := 2000000) only [D33_I, rdH, C70, go_sem, eq_self, and_self, Int.natCast_pos, Int.le_refl, Nat.le_refl, Int.natCast_nonneg, Int.ofNat_lt, Int.ofNat_le, Int.reduceLT, Int.reduceLE, Int.reduceEq, Int.reduceNe, Int.reduceAdd, Int.reduceSub, Int.reduceMul, Int.reduceToNat, Int.reduceNeg, Nat.reduceEqDiff, Nat.reduceLeDiff, Nat.reduceSub, Nat.reduceMul, Nat.reduceLT, Nat.reduceBEq, Nat.reduceAdd]
                  have failS : serOk ls2 l2 = false → K (.tup [.nilp, .int .i64 2]) [] := fun hn => h.1 (by rw [hn]; rfl)
                  rintro cc rfl
                  refine sw_intro (fun hj2 => ?_) (fun hj2 => ?_) <;> simp only [decide_eq_true_eq, decide_eq_false_iff_not] at hj2
                  · have hdr : l2.drop j2 = elt OutT l2 j2 :: l2.drop (j2 + 1) := by
                      have h8 := elt_get (t := OutT) hj2
                      obtain ⟨h9, h10⟩ := List.getElem?_eq_some_iff.1 h8
                      rw [← h10]
                      exact List.drop_eq_getElem_cons hj2
                    refine nd_intro hj2 ?_
                    generalize hxx : elt OutT l2 j2 = xx at *
                    rw [hdr] at k3
                    have hcn := k4 xx.1
                    have hcl := cntT_le xx.1 (l2.drop j2)
                    have hdl : (l2.drop j2).length ≤ 32 := by rw [List.length_drop]; omega
                    have hcp : 1 ≤ cntT xx.1 (l2.drop j2) := by rw [hdr, cntT, if_pos rfl]; omega
                    simp only [serOk] at k3
                    rw [← hdr] at k3
                    generalize hS : (lookM .str (.int .u64) ls2 xx.1).getD (0 : Int) = S at *
                    generalize hW : cntT xx.1 (l2.drop j2) = W at *
                    rintro y b hy _ y1 b1 hy1 _ cc rfl
                    rw [hcn] at hy
                    subst hy
                    subst hy1
                    refine sw_intro (fun hb => ?_) (fun hb => ?_) <;> simp only [decide_eq_true_eq, decide_eq_false_iff_not] at hb
                    · exact failS (by rw [k3, decide_eq_false (by omega)]; rfl)
                    · rintro y2 b2 hy2 _ y3 b3 hy3 _ hi2 hi3 m hm
                      subst hy2
                      rw [hcn] at hy3
                      subst hy3
                      rw [inR_u64] at hi2 hi3
                      rw [wu64 (by omega)] at hm
                      subst hm
                      rintro _ _ m hm
                      rw [wu64 (by omega)] at hm
                      subst hm
                      rintro cc rfl
                      refine sw_intro (fun hne => ?_) (fun hne => ?_) <;> simp only [Bool.not_eq_true', Bool.not_eq_false', decide_eq_true_eq, decide_eq_false_iff_not] at hne
                      · exact failS (by rw [k3, decide_eq_false (p := xx.2.2.1 = _) hne]; simp)
                      · rintro y b hy _ _ _ m1 hm1
                        rw [hcn] at hy
                        subst hy
                        rw [wu64 (by omega)] at hm1
                        refine ⟨by omega, ?_⟩
                        rintro _ _ m2 hm2
                        rw [w64 (by omega)] at hm2
                        subst hm2
                        have hcr : ∀ to, (cntT to (l2.drop j2) : Int) = (cntT to (l2.drop (j2 + 1)) : Nat) + (if xx.1 = to then 1 else 0) := fun to => by
                          rw [hdr, cntT]; split <;> rfl
                        refine lpE_intro (A := D33 a.1) ((ls2, st2, l2), (j2 + 1, updM .str (.int .u64) w2 xx.1 m1)) ?_ ⟨rfl, by simp only; omega, ?_, fun to => ?_, ?_⟩ (by show l2.length - (j2 + 1) < l2.length - j2; omega)
                        · simp (maxSteps := 2000000) only [D33_I, rdH, go_sem, eq_self, and_self, Int.natCast_pos, Int.le_refl, Nat.le_refl, Int.natCast_nonneg, Int.ofNat_lt, Int.ofNat_le, Int.reduceLT, Int.reduceLE, Int.reduceEq, Int.reduceNe, Int.reduceAdd, Int.reduceSub, Int.reduceMul, Int.reduceToNat, Int.reduceNeg, Nat.reduceEqDiff, Nat.reduceLeDiff, Nat.reduceSub, Nat.reduceMul, Nat.reduceLT, Nat.reduceBEq, Nat.reduceAdd]
                          rfl
                        · simp only
                          rw [k3, decide_eq_true (by omega), decide_eq_true hne]
                          rfl
                        · simp only
                          by_cases ht : to = xx.1
                          · subst ht
                            rw [lookM_upd_self (vt := .int .u64)]
                            have := hcr xx.1
                            rw [if_pos rfl, hW] at this
                            show m1 = _
                            omega
                          · rw [lookM_upd_ne (vt := .int .u64) _ _ ht, k4]
                            have := hcr to
                            rw [if_neg (Ne.symm ht)] at this
                            show ((cntT to (l2.drop j2) : Nat) : Int) = ((cntT to (l2.drop (j2 + 1)) : Nat) : Int)
                            omega
                        · simp only
                          have := updM_len (vt := .int .u64) w2 xx.1 m1
                          omega
                  · obtain rfl : j2 = l2.length := by omega
                    rw [List.drop_length] at k3
                    have k3' : serOk ls2 l2 = true := k3
                    refine sw_intro (fun he => ?_) (fun he => ?_)
                    · exact h.2 a.1 l2 ls2 (by rw [if_pos ⟨k3', by simpa using he⟩])
                    · exact h.1 (by rw [if_neg (fun hh => by simp [hh.2] at he)])
  · exact h.elim
end Go.V
