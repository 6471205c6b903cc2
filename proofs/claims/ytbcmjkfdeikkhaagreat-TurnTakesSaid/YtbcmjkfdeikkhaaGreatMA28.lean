/- A part of the proof layer, or functions of the given program in it: contracts and their proofs. -/
import Derived.Test.YtbcmjkfdeikkhaaGreatMA25
namespace Go.V
open Go.Proofs
set_option maxRecDepth 100000
set_option linter.unusedSimpArgs false
set_option linter.unnecessarySimpa false
set_option linter.unusedVariables false
def decK2 (h : ByteArray → List OutT.den → List LastT.den → List SB) (r : Option (ByteArray × List OutT.den × List LastT.den)) (K : SV → List SB → Prop) : Prop :=
 (r = none → K (.tup [.nilp, .int .i64 2]) []) ∧ (∀ o l ls, r = some (o, l, ls) → K (.tup [.ptr 0 0, .int .i64 0]) (h o l ls))
def C33 : Contract := fun args hp K => match args, hp with
 | [.sl p 1 .byte bs], [] => decK2 (fun o l ls => obH true o l ls) (decOut bs) K
 | _, _ => False
def A33 (o : ByteArray) (st : Option (List UInt8)) (n : Nat) : LoopAnn := { G := Nat × (List LastT.den × Option (List UInt8)), I := fun g => ⟨[(4, .ptr 0 0), (5, .ptr 1 0), (8, .str (lastK g.2.1)), (33, .int .u64 n), (34, .int .u64 g.1)], rdH g.2.2 :: [.struct [.str o, .own 2, .mp 3], .row true 72 OutT [], .map false .str (.int .u64) g.2.1]⟩, R := fun _ g => g.1 ≤ n ∧ keysN st g.1 = some g.2, μ := fun g => n - g.1 }
theorem A33_I {o st n} (g : Nat × (List LastT.den × Option (List UInt8))) : (A33 o st n).I g = ⟨[(4, .ptr 0 0), (5, .ptr 1 0), (8, .str (lastK g.2.1)), (33, .int .u64 n), (34, .int .u64 g.1)], rdH g.2.2 :: [.struct [.str o, .own 2, .mp 3], .row true 72 OutT [], .map false .str (.int .u64) g.2.1]⟩ := rfl
structure G2 where
 i : Nat
 l : List OutT.den
 st : Option (List UInt8)
 w : List (ByteArray × Int)
def B33 (o : ByteArray) : LoopAnn := { G := (List LastT.den × Option (List UInt8) × Nat) × G2, I := fun g => ⟨[(4, .ptr 0 0), (5, .ptr 1 0), (11, .mp 4), (69, .int .u64 g.1.2.2), (70, .int .u64 g.2.i)], rdH g.2.st :: [.struct [.str o, .own 2, .mp 3], .row true 72 OutT g.2.l, .map false .str (.int .u64) g.1.1, .map false .str (.int .u64) g.2.w]⟩, R := fun g0 g => g.1 = g0.1 ∧ g.2.i ≤ g.1.2.2 ∧ outsN o g.1.1 g.1.2.1 g.2.i = some (g.2.l, g.2.st) ∧ (∀ to, (lookM .str (.int .u64) g.2.w to).getD (0 : Int) = (cntT to g.2.l : Nat)) ∧ g.2.w.length ≤ g.2.i, μ := fun g => g.1.2.2 - g.2.i }
theorem B33_I {o} (g : (List LastT.den × Option (List UInt8) × Nat) × G2) : (B33 o).I g = ⟨[(4, .ptr 0 0), (5, .ptr 1 0), (11, .mp 4), (69, .int .u64 g.1.2.2), (70, .int .u64 g.2.i)], rdH g.2.st :: [.struct [.str o, .own 2, .mp 3], .row true 72 OutT g.2.l, .map false .str (.int .u64) g.1.1, .map false .str (.int .u64) g.2.w]⟩ := rfl
def D33 (o : ByteArray) : LoopAnn := { G := (List LastT.den × Option (List UInt8) × List OutT.den) × (Nat × List (ByteArray × Int)), I := fun g => ⟨[(4, .ptr 0 0), (5, .ptr 1 0), (11, .mp 4), (125, .own 2), (126, .int .i64 g.1.2.2.length), (127, .int .i64 g.2.1)], rdH g.1.2.1 :: [.struct [.str o, .own 2, .mp 3], .row true 72 OutT g.1.2.2, .map false .str (.int .u64) g.1.1, .map false .str (.int .u64) g.2.2]⟩, R := fun g0 g => g.1 = g0.1 ∧ g.2.1 ≤ g.1.2.2.length ∧ serOk g.1.1 g.1.2.2 = serOk g.1.1 (g.1.2.2.drop g.2.1) ∧ (∀ to, (lookM .str (.int .u64) g.2.2 to).getD (0 : Int) = (cntT to (g.1.2.2.drop g.2.1) : Nat)) ∧ g.2.2.length ≤ 100 + g.2.1, μ := fun g => g.1.2.2.length - g.2.1 }
theorem D33_I {o} (g : (List LastT.den × Option (List UInt8) × List OutT.den) × (Nat × List (ByteArray × Int))) : (D33 o).I g = ⟨[(4, .ptr 0 0), (5, .ptr 1 0), (11, .mp 4), (125, .own 2), (126, .int .i64 g.1.2.2.length), (127, .int .i64 g.2.1)], rdH g.1.2.1 :: [.struct [.str o, .own 2, .mp 3], .row true 72 OutT g.1.2.2, .map false .str (.int .u64) g.1.1, .map false .str (.int .u64) g.2.2]⟩ := rfl
theorem cntT_snoc (to : ByteArray) (x : OutT.den) : ∀ l : List OutT.den, cntT to (l ++ [x]) = cntT to l + (if x.1 = to then 1 else 0)
 | [] => by simp only [List.nil_append, cntT]; split <;> rfl
 | y :: r => by
  simp only [List.cons_append, cntT]
  rw [cntT_snoc to x r]
  split <;> omega
theorem cntT_le (to : ByteArray) : ∀ l : List OutT.den, cntT to l ≤ l.length
 | [] => Nat.le_refl _
 | y :: r => by have := cntT_le to r; simp only [cntT, List.length_cons]; split <;> omega
theorem look_new {ls : List LastT.den} {n : Nat} (h : KeysOk ls n) {k : ByteArray} (hk : ltS (lastK ls) k = true) : lookM .str (.int .u64) ls k = none := by
 have hl := ltS_last h.srt hk
 unfold lookM
 cases hf : ls.find? (fun e => Ty.beq .str e.1 k) with
 | none => rfl
 | some y =>
  exfalso
  have h1 := List.find?_some hf
  have h2 := List.mem_of_find?_eq_some hf
  simp only [beq_str, decide_eq_true_eq] at h1
  have := hl y h2
  rw [h1, ltS_irr] at this
  cases this
theorem outsN_len {o : ByteArray} {ls : List LastT.den} {st : Option (List UInt8)} : ∀ {n : Nat} {p : List OutT.den × Option (List UInt8)}, outsN o ls st n = some p → p.1.length = n
 | 0, p, h => by simp only [outsN, Option.some.injEq] at h; subst h; rfl
 | n + 1, p, h => by
  rw [outsN] at h
  cases hq : outsN o ls st n with
  | none => rw [hq] at h; cases h
  | some q =>
   rw [hq] at h
   have ih := outsN_len hq
   have h' : outStep o ls q = some p := h
   unfold outStep at h'
   simp only at h'
   cases hd : decL (rdText (rdText q.2).2).1.data.toList with
   | none => rw [hd] at h'; cases h'
   | some l =>
    rw [hd] at h'
    simp only at h'
    split at h'
    ·cases h'
    ·simp only [Option.some.injEq] at h'
     rw [← h']
     simp [ih]
theorem leq_lt {k last : ByteArray} : (ltS k last || decide (k = last)) = !ltS last k := by
 cases h1 : ltS last k with
 | true =>
  have h2 := ltS_asy h1
  have h3 : k ≠ last := fun e => by rw [e, ltS_irr] at h1; cases h1
  simp [h2, h3]
 | false =>
  cases h2 : ltS k last with
  | true => rfl
  | false => simp [ltS_tot h2 h1]
theorem updM_len {vt : Ty} (m : List (ByteArray × vt.den)) (k : ByteArray) (v : vt.den) : (updM .str vt m k v).length ≤ m.length + 1 := by
 by_cases h : lookM .str vt m k = none
 ·rw [updM_length_new h]; exact Nat.le_refl _
 ·rw [updM_length_old h]; omega
theorem s33 : Sound Tryz.prog 33 C33 := by
  refine sound_of_okF ok33 (.cons s64 (callable_of_okF ok64) (.cons s67 (callable_of_okF ok67) (.cons s71 (callable_of_okF ok71) (.cons s65 (callable_of_okF ok65) (.cons s93 (callable_of_okF ok93) (.cons s80 (callable_of_okF ok80) (.cons s94 (callable_of_okF ok94) (.cons s70 (callable_of_okF ok70) .nil)))))))) ?_
  intro args hp K h
  unfold C33 at h
  split at h
  · rename_i p bs
    refine ⟨by simp, [(1, A33 (rdText (some bs)).1 (rdNum (rdText (some bs)).2).2 (rdNum (rdText (some bs)).2).1.toNat), (2, B33 (rdText (some bs)).1), (3, D33 (rdText (some bs)).1)], ?_⟩
    simp (maxSteps:=9^9) only [a33, r33, C64, C67, C71, C65, rdH, obH, go_sem, Int.reduceEq, Nat.reduceSub, Nat.reduceLT, Nat.reduceBEq, Nat.reduceAdd]
    unfold decOut at h
    simp only at h
    have hr := rdNum_in (rdText (some bs)).2
    generalize rdText (some bs) = a at *
    generalize rdNum a.2 = c at *
    intro _
    refine ⟨fun hk => ?_, fun hk => h.1 (by rw [if_pos (.inl hk)])⟩
    rintro cc rfl
    refine sw_intro (fun hc => ?_) (fun hc => ?_) <;> simp only [decide_eq_true_eq, decide_eq_false_iff_not] at hc
    · exact h.1 (by rw [if_pos (.inr hc)])
    · rw [if_neg (fun hh => hh.elim (fun h9 => by rw [hk] at h9; cases h9) hc)] at h
      refine loop_intro (A := A33 a.1 c.2 c.1.toNat) ((0 : Nat), ([], c.2)) ?_ ⟨Nat.zero_le _, rfl⟩ ?_
      · simp (maxSteps:=9^9) only [A33_I, rdH, go_sem, Nat.reduceBEq, Nat.reduceAdd]
        rw [show ((c.1.toNat : Nat) : Int) = c.1 by omega]
        rfl
      · rintro ⟨i, ls, st⟩ ⟨hi, hks⟩
        simp only at hi hks
        simp (maxSteps:=9^9) only [A33_I, rdH, C67, C65, C93, C80, go_sem, Nat.reduceLeDiff, Nat.reduceSub, Nat.reduceBEq, Nat.reduceAdd]
        have hko := keysN_ok hks
        simp only at hko
        have hlen := hko.len
        have hmx := maxLen_val
        rintro cc rfl
        refine sw_intro (fun hc2 => ?_) (fun hc2 => ?_) <;> simp only [decide_eq_true_eq, decide_eq_false_iff_not] at hc2
        · have fail : keyStep (ls, st) = none → K (.tup [.nilp, .int .i64 2]) [] := fun hn => h.1 (by
            have h1 : keysN c.2 (i + 1) = none := by rw [keysN, hks]; exact hn
            rw [keysN_none h1 c.1.toNat (by omega)])
          unfold keyStep at fail
          simp only at fail
          have hrn := rdNum_in (rdText st).2
          intro _
          refine sw_intro (fun hb => fail (if_pos (.inl hb))) (fun hb => ?_)
          refine sw_intro (fun hb2 => ?_) (fun hb2 => fail (if_pos (.inr (.inl hb2))))
          rintro cc rfl
          refine sw_intro (fun hb3 => fail (if_pos (.inr (.inr (.inl (by simpa using hb3)))))) (fun hb3 => ?_)
          rintro cc hcc
          rw [leq_lt] at hcc
          subst hcc
          refine sw_intro (fun hb4 => fail (if_pos (.inr (.inr (.inr (by simpa using hb4)))))) (fun hb4 => ?_)
          have hlt : ltS (lastK ls) (rdText st).1 = true := by simpa using hb4
          refine ⟨by omega, ?_⟩
          rintro _ _ m hm
          rw [wu64 (by omega)] at hm
          subst hm
          have hks' : keysN c.2 (i + 1) = some (ls ++ [((rdText st).1, (rdNum (rdText st).2).1)], (rdNum (rdText st).2).2) := by
            rw [keysN, hks]
            show keyStep (ls, st) = _
            unfold keyStep
            simp only
            exact if_neg (fun hh => by
              rcases hh with h9 | h9 | h9 | h9
              · rw [hb] at h9; cases h9
              · rw [hb2] at h9; cases h9
              · simp [h9] at hb3
              · rw [hlt] at h9; cases h9)
          refine lpE_intro (A := A33 a.1 c.2 c.1.toNat) (i + 1, (ls ++ [((rdText st).1, (rdNum (rdText st).2).1)], (rdNum (rdText st).2).2)) ?_ ⟨by simp only; omega, hks'⟩ (by show c.1.toNat - (i + 1) < c.1.toNat - i; omega)
          simp (maxSteps:=9^9) only [A33_I, rdH, go_sem, Nat.reduceBEq, Nat.reduceAdd]
          rw [lastK_snoc, updM_new (vt := .int .u64) (look_new hko hlt)]
          rfl
        · obtain rfl : i = c.1.toNat := by omega
          rw [hks] at h
          simp only at h
          have hrd := rdNum_in st
          generalize rdNum st = d at *
          rintro cc rfl
          refine sw_intro (fun hd => ?_) (fun hd => ?_) <;> simp only [decide_eq_true_eq, decide_eq_false_iff_not] at hd
          · exact h.1 (by rw [if_pos hd])
          · rw [if_neg hd] at h
            refine loop_intro (A := B33 a.1) ((ls, d.2, d.1.toNat), ⟨0, [], d.2, []⟩) ?_ ⟨rfl, Nat.zero_le _, rfl, fun to => rfl, Nat.le_refl _⟩ ?_
            · simp (maxSteps:=9^9) only [B33_I, rdH, go_sem, Nat.reduceBEq, Nat.reduceAdd]
              rw [show ((d.1.toNat : Nat) : Int) = d.1 by omega]
              rfl
            · rintro ⟨⟨ls', st0, n'⟩, ⟨j, l, st', w⟩⟩ ⟨h1, h2, h3, h4, h5⟩
              simp only [Prod.mk.injEq] at h1 h2 h3 h4 h5
              obtain ⟨rfl, rfl, rfl⟩ := h1
              simp (maxSteps:=9^9) only [B33_I, rdH, C67, C93, C94, decK, go_sem, Int.reduceEq, Nat.reduceLeDiff, Nat.reduceSub, Nat.reduceMul, Nat.reduceLT, Nat.reduceBEq, Nat.reduceAdd]
              have hll := outsN_len h3
              simp only at hll
              rintro cc rfl
              refine sw_intro (fun hj => ?_) (fun hj => ?_) <;> simp only [decide_eq_true_eq, decide_eq_false_iff_not] at hj
              · have fail : outStep a.1 ls' (l, st') = none → K (.tup [.nilp, .int .i64 2]) [] := fun hn => h.1 (by
                  have h1 : outsN a.1 ls' d.2 (j + 1) = none := by rw [outsN, h3]; exact hn
                  rw [outsN_none h1 d.1.toNat (by omega)])
                have succ : ∀ q, outStep a.1 ls' (l, st') = some q → outsN a.1 ls' d.2 (j + 1) = some q := fun q hq => by
                  rw [outsN, h3]; exact hq
                unfold outStep at fail succ
                simp only at fail succ
                intro _ hs2
                refine ⟨hs2, rfl, fun hn => ?_, fun lt hlt => ?_⟩
                · have := fail (by rw [hn])
                  exact sw_intro (fun _ => this) (fun _ => this)
                · rw [hlt] at fail succ
                  simp only at fail succ
                  refine sw_intro (fun hb => fail (if_pos (.inl hb))) (fun hb => ?_)
                  rintro cc rfl
                  refine sw_intro (fun hb2 => fail (if_pos (.inr (.inl (by simpa using hb2))))) (fun hb2 => ?_)
                  rintro y b hy _ cc rfl
                  refine sw_intro (fun hb3 => fail (if_pos (.inr (.inr (by rw [← hy]; simpa using hb3))))) (fun hb3 => ?_)
                  have succ := succ _ (if_neg (fun hh => by
                    rcases hh with h9 | h9 | h9
                    · rw [hb] at h9; cases h9
                    · simp only [Bool.not_eq_false', decide_eq_true_eq] at hb2
                      exact h9 hb2
                    · rw [← hy] at h9
                      simp [h9] at hb3))
                  rintro y2 b2 hy2 _ hi2 _ m hm
                  have hcn := h4 (rdText st').1
                  have hcl := cntT_le (rdText st').1 l
                  rw [hcn] at hy2
                  subst hy2
                  rw [wu64 (by omega)] at hm
                  refine ⟨by omega, fun _ => by omega, fun _ _ _ m1 hm1 => ?_⟩
                  rw [wu64 (by omega)] at hm1
                  subst hm1
                  refine lpE_intro (A := B33 a.1) ((ls', d.2, d.1.toNat), ⟨j + 1, l ++ [((rdText st').1, lt)], (rdText (rdText st').2).2, updM .str (.int .u64) w (rdText st').1 m⟩) ?_ ⟨rfl, by simp only; omega, succ, fun to => ?_, ?_⟩ (by show d.1.toNat - (j + 1) < d.1.toNat - j; omega)
                  · simp (maxSteps:=9^9) only [B33_I, rdH, go_sem, Nat.reduceBEq, Nat.reduceAdd]
                    rfl
                  · simp only
                    rw [cntT_snoc]
                    by_cases ht : to = (rdText st').1
                    · subst ht
                      rw [lookM_upd_self (vt := .int .u64), if_pos rfl, hm]
                      rfl
                    · rw [lookM_upd_ne (vt := .int .u64) _ _ ht, h4, if_neg (Ne.symm ht)]
                      rfl
                  · simp only
                    have := updM_len (vt := .int .u64) w (rdText st').1 m
                    omega
              · obtain rfl : j = d.1.toNat := by omega
                rw [h3] at h
                simp only at h
                rintro _ _ m rfl
                refine loop_intro (A := D33 a.1) ((ls', st', l), (0, w)) ?_ ⟨rfl, Nat.zero_le _, rfl, h4, by simp only; omega⟩ ?_
                · simp (maxSteps:=9^9) only [D33_I, rdH, go_sem, Nat.reduceBEq, Nat.reduceAdd]
                  rfl
                · rintro ⟨⟨ls2, st2, l2⟩, ⟨j2, w2⟩⟩ ⟨k1, k2, k3, k4, k5⟩
                  simp only [Prod.mk.injEq] at k1 k2 k3 k4 k5
                  obtain ⟨rfl, rfl, rfl⟩ := k1
                  simp (maxSteps:=9^9) only [D33_I, rdH, C70, go_sem, Nat.reduceLeDiff, Nat.reduceSub, Nat.reduceBEq, Nat.reduceAdd]
                  have failS : serOk ls2 l2 = false → K (.tup [.nilp, .int .i64 2]) [] := fun hn => h.1 (by rw [hn]; rfl)
                  rintro cc rfl
                  refine sw_intro (fun hj2 => ?_) (fun hj2 => ?_) <;> simp only [decide_eq_true_eq, decide_eq_false_iff_not] at hj2
                  · have hdr : l2.drop j2 = elt OutT l2 j2 :: l2.drop (j2 + 1) := by
                      have h8 := elt_get (t := OutT) hj2
                      obtain ⟨h9, h10⟩ := List.getElem?_eq_some_iff.1 h8
                      rw [← h10]
                      exact List.drop_eq_getElem_cons hj2
                    refine nd_intro hj2 ?_
                    generalize hxx : elt OutT l2 j2 = xx at *
                    rw [hdr] at k3
                    have hcn := k4 xx.1
                    have hcl := cntT_le xx.1 (l2.drop j2)
                    have hdl : (l2.drop j2).length ≤ 32 := by rw [List.length_drop]; omega
                    have hcp : 1 ≤ cntT xx.1 (l2.drop j2) := by rw [hdr, cntT, if_pos rfl]; omega
                    simp only [serOk] at k3
                    rw [← hdr] at k3
                    generalize hS : (lookM .str (.int .u64) ls2 xx.1).getD (0 : Int) = S at *
                    generalize hW : cntT xx.1 (l2.drop j2) = W at *
                    rintro y b hy _ y1 b1 hy1 _ cc rfl
                    rw [hcn] at hy
                    subst hy
                    subst hy1
                    refine sw_intro (fun hb => ?_) (fun hb => ?_) <;> simp only [decide_eq_true_eq, decide_eq_false_iff_not] at hb
                    · exact failS (by rw [k3, decide_eq_false (by omega)]; rfl)
                    · rintro y2 b2 hy2 _ y3 b3 hy3 _ hi2 hi3 m hm
                      subst hy2
                      rw [hcn] at hy3
                      subst hy3
                      rw [inR_u64] at hi2 hi3
                      rw [wu64 (by omega)] at hm
                      subst hm
                      rintro _ _ m hm
                      rw [wu64 (by omega)] at hm
                      subst hm
                      rintro cc rfl
                      refine sw_intro (fun hne => ?_) (fun hne => ?_) <;> simp only [Bool.not_eq_true', Bool.not_eq_false', decide_eq_true_eq, decide_eq_false_iff_not] at hne
                      · exact failS (by rw [k3, decide_eq_false (p := xx.2.2.1 = _) hne]; simp)
                      · rintro y b hy _ _ _ m1 hm1
                        rw [hcn] at hy
                        subst hy
                        rw [wu64 (by omega)] at hm1
                        refine ⟨by omega, ?_⟩
                        rintro _ _ m2 hm2
                        rw [w64 (by omega)] at hm2
                        subst hm2
                        have hcr : ∀ to, (cntT to (l2.drop j2) : Int) = (cntT to (l2.drop (j2 + 1)) : Nat) + (if xx.1 = to then 1 else 0) := fun to => by
                          rw [hdr, cntT]; split <;> rfl
                        refine lpE_intro (A := D33 a.1) ((ls2, st2, l2), (j2 + 1, updM .str (.int .u64) w2 xx.1 m1)) ?_ ⟨rfl, by simp only; omega, ?_, fun to => ?_, ?_⟩ (by show l2.length - (j2 + 1) < l2.length - j2; omega)
                        · simp (maxSteps:=9^9) only [D33_I, rdH, go_sem, Nat.reduceBEq, Nat.reduceAdd]
                          rfl
                        · simp only
                          rw [k3, decide_eq_true (by omega), decide_eq_true hne]
                          rfl
                        · simp only
                          by_cases ht : to = xx.1
                          · subst ht
                            rw [lookM_upd_self (vt := .int .u64)]
                            have := hcr xx.1
                            rw [if_pos rfl, hW] at this
                            show m1 = _
                            omega
                          · rw [lookM_upd_ne (vt := .int .u64) _ _ ht, k4]
                            have := hcr to
                            rw [if_neg (Ne.symm ht)] at this
                            show ((cntT to (l2.drop j2) : Nat) : Int) = ((cntT to (l2.drop (j2 + 1)) : Nat) : Int)
                            omega
                        · simp only
                          have := updM_len (vt := .int .u64) w2 xx.1 m1
                          omega
                  · obtain rfl : j2 = l2.length := by omega
                    rw [List.drop_length] at k3
                    have k3' : serOk ls2 l2 = true := k3
                    refine sw_intro (fun he => ?_) (fun he => ?_)
                    · exact h.2 a.1 l2 ls2 (by rw [if_pos ⟨k3', by simpa using he⟩])
                    · exact h.1 (by rw [if_neg (fun hh => by simp [hh.2] at he)])
  · exact h.elim
end Go.V
namespace Go.V
open Go.Proofs
set_option maxRecDepth 100000
set_option linter.unusedSimpArgs false
set_option linter.unnecessarySimpa false
set_option linter.unusedVariables false
theorem ltS_empty (s : ByteArray) (h : s ≠ ByteArray.empty) : ltS ByteArray.empty s = true := by
 cases h1 : ltS ByteArray.empty s with
 | true => rfl
 | false =>
  cases h2 : ltS s ByteArray.empty with
  | true =>
   rw [ltS_eq] at h2
   have : (ByteArray.empty.data.toList : List UInt8) = [] := rfl
   rw [this] at h2
   simp at h2
  | false => exact absurd (ltS_tot h2 h1) h
theorem lookR_srt {ls : List LastT.den} (h : ls.Pairwise fun x y => ltS x.1 y.1 = true) (k : ByteArray) : lookR ls k = lookM .str (.int .u64) ls k := by
 induction ls with
 | nil => rfl
 | cons x r ih =>
  rw [List.pairwise_cons] at h
  have ih := ih h.2
  rw [lookR]
  unfold lookM at ih ⊢
  rw [List.find?_cons]
  by_cases h1 : x.1 = k
  ·have e : Ty.beq .str x.1 k = true := by rw [beq_str]; simpa using h1
   rw [e]
   subst h1
   rw [ltS_irr]
   simp
  ·have e : Ty.beq .str x.1 k = false := by rw [beq_str]; simpa using h1
   rw [e]
   by_cases h2 : ltS x.1 k = true
   ·rw [if_pos h2, ih]
   ·rw [if_neg h2, if_neg h1]
    have h3 : ltS k x.1 = true := by
     cases h4 : ltS k x.1 with
     | true => rfl
     | false => exact absurd (ltS_tot (by simpa using h2) h4) h1
    have hn : r.find? (fun e => Ty.beq .str e.1 k) = none := List.find?_eq_none.2 (fun y hy => by
     rw [beq_str]
     simp only [decide_eq_true_eq]
     intro e
     have := h.1 y hy
     rw [e, ltS_asy h3] at this
     cases this)
    rw [hn]
    rfl
theorem look_key {ls : List LastT.den} {n : Nat} (h : KeysOk ls n) {x : LastT.den} (hx : x ∈ ls) : lookM .str (.int .u64) ls x.1 = some x.2 := by
 rw [← lookR_srt h.srt]
 have hs := h.srt
 clear h
 induction ls with
 | nil => simp at hx
 | cons y r ih =>
  rw [List.pairwise_cons] at hs
  rcases List.mem_cons.1 hx with rfl | hx
  ·rw [lookR, ltS_irr]; simp
  ·rw [lookR, if_pos (hs.1 x hx)]
   exact ih hx hs.2
theorem look_mem {ls : List LastT.den} {k : ByteArray} {s : Int} (h : lookM .str (.int .u64) ls k = some s) : (k, s) ∈ ls := by
 unfold lookM at h
 cases hf : ls.find? (fun e => Ty.beq .str e.1 k) with
 | none => rw [hf] at h; cases h
 | some y =>
  rw [hf] at h
  have h1 := List.find?_some hf
  have h2 := List.mem_of_find?_eq_some hf
  simp only [beq_str, decide_eq_true_eq] at h1
  cases h
  subst h1
  exact h2
theorem sub1 (S : Int) (c : Nat) : S - ((c + 1 : Nat) : Int) + 1 = S - (c : Nat) := by omega
theorem serOk_all {ls : List LastT.den} : ∀ {l : List OutT.den}, serOk ls l = true ↔ ∀ (a : List OutT.den) (x : OutT.den) (r : List OutT.den), l = a ++ x :: r → (cntT x.1 r : Int) < (lookM .str (.int .u64) ls x.1).getD (0 : Int) ∧ x.2.2.1 = (lookM .str (.int .u64) ls x.1).getD (0 : Int) - (cntT x.1 r : Nat)
 | [] => by simp [serOk]
 | y :: l => by
  have e0 : cntT y.1 (y :: l) = cntT y.1 l + 1 := by rw [cntT, if_pos rfl]
  rw [serOk, Bool.and_eq_true, Bool.and_eq_true, serOk_all (l := l), decide_eq_true_eq, decide_eq_true_eq, e0]
  constructor
  ·rintro ⟨⟨h1, h3⟩, h2⟩ a x r e
   cases a with
   | nil =>
    rw [List.nil_append] at e
    injection e with e1 e2
    subst e1 e2
    exact ⟨by omega, h3.trans (sub1 _ _)⟩
   | cons b a =>
    rw [List.cons_append] at e
    injection e with e1 e2
    exact h2 a x r e2
  ·intro h
   have h1 := h [] y l rfl
   exact ⟨⟨by omega, h1.2.trans (sub1 _ _).symm⟩, fun a x r e => h (y :: a) x r (by rw [e]; rfl)⟩
end Go.V
namespace Go.V
open Go.Proofs
open Go.Maps
set_option maxRecDepth 100000
set_option linter.unusedSimpArgs false
set_option linter.unnecessarySimpa false
set_option linter.unusedVariables false
/-! ### what an outbox keeps: its bytes are it -/
structure Inv (o : ByteArray) (l : List OutT.den) (ls : List LastT.den) (B : Int) : Prop where
 ko : keyOk o = true
 keys : KeysOk ls ls.length
 m64 : ls.length ≤ 64
 l32 : l.length ≤ 32
 lets : ∀ x ∈ l, x.2.2.2.2.length ≤ 4 ∧ x.2.1 = o ∧ (lookM .str (.int .u64) ls x.1).getD (0 : Int) ≠ 0
 ser : serOk ls l = true
 bnd : ∀ x ∈ ls, x.2 ≤ B
theorem keyOk_size {s : ByteArray} (h : keyOk s = true) : 1 ≤ s.size ∧ s.size ≤ 40 := by
 rw [keyOk_eq] at h
 simpa using h
theorem keyOk_ne {s : ByteArray} (h : keyOk s = true) : s ≠ ByteArray.empty := by
 rintro rfl
 exact absurd h (by decide)
theorem Inv.new {o : ByteArray} (h : keyOk o = true) : Inv o [] [] 0 :=
 ⟨h, ⟨rfl, List.Pairwise.nil, fun x hx => by simp at hx⟩, by simp, by simp, fun x hx => by simp at hx, rfl, fun x hx => by simp at hx⟩
theorem Inv.mono {o : ByteArray} {l : List OutT.den} {ls : List LastT.den} {B B' : Int} (h : Inv o l ls B) (hB : B ≤ B') : Inv o l ls B' :=
 ⟨h.ko, h.keys, h.m64, h.l32, h.lets, h.ser, fun x hx => Int.le_trans (h.bnd x hx) hB⟩
theorem Inv.key {o : ByteArray} {l : List OutT.den} {ls : List LastT.den} {B : Int} (h : Inv o l ls B) {x : OutT.den} (hx : x ∈ l) : keyOk x.1 = true := by
 have h1 := (h.lets x hx).2.2
 cases hs : lookM .str (.int .u64) ls x.1 with
 | none => rw [hs] at h1; exact absurd rfl h1
 | some s => exact (h.keys.key _ (look_mem hs)).1
theorem Inv.pop {o : ByteArray} {x : OutT.den} {l : List OutT.den} {ls : List LastT.den} {B : Int} (h : Inv o (x :: l) ls B) : Inv o l ls B := by
 refine ⟨h.ko, h.keys, h.m64, ?_, fun y hy => h.lets y (List.mem_cons_of_mem _ hy), ?_, h.bnd⟩
 ·have := h.l32
  simp only [List.length_cons] at this
  omega
 ·have := h.ser
  rw [serOk, Bool.and_eq_true] at this
  exact this.2
theorem setR_mem {ls : List LastT.den} {to : ByteArray} {s : Int} {y : LastT.den} (h : y ∈ setR ls to s) : y = (to, s) ∨ y ∈ ls := by
 induction ls with
 | nil => simp only [setR, List.mem_singleton] at h; exact .inl h
 | cons x r ih =>
  rw [setR] at h
  split at h
  ·rcases List.mem_cons.1 h with rfl | h
   ·exact .inr (by simp)
   ·rcases ih h with h | h
    ·exact .inl h
    ·exact .inr (List.mem_cons_of_mem _ h)
  ·split at h
   ·rcases List.mem_cons.1 h with h | h
    ·exact .inl h
    ·exact .inr (List.mem_cons_of_mem _ h)
   ·rcases List.mem_cons.1 h with h | h
    ·exact .inl h
    ·exact .inr h
theorem setR_srt {ls : List LastT.den} {to : ByteArray} {s : Int} (h : ls.Pairwise fun x y => ltS x.1 y.1 = true) : (setR ls to s).Pairwise fun x y => ltS x.1 y.1 = true := by
 induction ls with
 | nil => exact List.pairwise_singleton _ _
 | cons x r ih =>
  rw [List.pairwise_cons] at h
  rw [setR]
  split
  ·rename_i hc
   rw [List.pairwise_cons]
   refine ⟨fun y hy => ?_, ih h.2⟩
   rcases setR_mem hy with rfl | hy
   ·exact hc
   ·exact h.1 y hy
  ·rename_i hc
   split
   ·rename_i he
    rw [List.pairwise_cons]
    refine ⟨fun y hy => ?_, h.2⟩
    rw [← he]
    exact h.1 y hy
   ·rename_i he
    have hlt : ltS to x.1 = true := by
     cases h4 : ltS to x.1 with
     | true => rfl
     | false => exact absurd (ltS_tot (by simpa using hc) h4) he
    rw [List.pairwise_cons, List.pairwise_cons]
    refine ⟨fun y hy => ?_, h⟩
    rcases List.mem_cons.1 hy with rfl | hy
    ·exact hlt
    ·exact ltS_trans hlt (h.1 y hy)
theorem there_lookM {ls : List LastT.den} (h : ls.Pairwise fun x y => ltS x.1 y.1 = true) (to : ByteArray) : thereL ls to = lookM .str (.int .u64) ls to := by
 rw [thereL_eq, lookR_srt h]
theorem sub2 (S s : Int) (c : Nat) (h : s = S + 1) : S - (c : Nat) = s - ((c + 1 : Nat) : Int) := by omega
theorem sub3 (v S : Int) (c : Nat) (h1 : (c : Int) < S) (h2 : v = S - (c : Nat)) (h3 : S ≤ 18446744073709551615) : 0 ≤ v ∧ v ≤ 18446744073709551615 := by omega
theorem Inv.send {o : ByteArray} {l : List OutT.den} {ls : List LastT.den} {B : Int} (h : Inv o l ls B) (hB : B ≤ 18446744073709551000) (hB0 : 0 ≤ B) {to : ByteArray} {xs : List Int} (hk : keyOk to = true) (hx : xs.length ≤ 4) (hl : l.length < 32) {s : Int} (hm : (setF ls to s).length ≤ 64) (kind : Int) (hs : s = IntKind.u64.wrap ((thereL ls to).getD (0 : Int) + 1)) :
  Inv o (l ++ [(to, o, s, kind, xs)]) (setF ls to s) (B + 1) := by
 have hS : 0 ≤ (thereL ls to).getD (0 : Int) ∧ (thereL ls to).getD (0 : Int) ≤ B := by
  rw [there_lookM h.keys.srt]
  cases hq : lookM .str (.int .u64) ls to with
  | none => exact ⟨Int.le_refl _, hB0⟩
  | some S =>
   have h1 := h.keys.key _ (look_mem hq)
   have h2 := h.bnd _ (look_mem hq)
   exact ⟨h1.2.2.1, h2⟩
 rw [wu64 (by omega)] at hs
 have hmem : ∀ y ∈ setF ls to s, y = (to, s) ∨ y ∈ ls := fun y hy => setR_mem (by rw [← setF_eq]; exact hy)
 have hsrt : (setF ls to s).Pairwise fun x y => ltS x.1 y.1 = true := by rw [setF_eq]; exact setR_srt h.keys.srt
 have hlk : ∀ k, lookM .str (.int .u64) (setF ls to s) k = if k = to then some s else lookM .str (.int .u64) ls k := fun k => by
  rw [← there_lookM hsrt, thereL_eq, setF_eq, lookR_set, lookR_srt h.keys.srt]
 refine ⟨h.ko, ⟨rfl, hsrt, fun y hy => ?_⟩, hm, by simp only [List.length_append, List.length_singleton]; omega, fun y hy => ?_, ?_, fun y hy => ?_⟩
 ·rcases hmem y hy with rfl | hy
  ·exact ⟨hk, by show s ≠ 0; omega, by show 0 ≤ s; omega, by show s ≤ _; omega⟩
  ·exact h.keys.key y hy
 ·rw [hlk]
  rcases List.mem_append.1 hy with hy | hy
  ·have h1 := h.lets y hy
   refine ⟨h1.1, h1.2.1, ?_⟩
   split
   ·show s ≠ 0; omega
   ·exact h1.2.2
  ·simp only [List.mem_singleton] at hy
   subst hy
   refine ⟨hx, rfl, ?_⟩
   rw [if_pos rfl]
   show s ≠ 0; omega
 ·have hso := serOk_all.1 h.ser
  rw [serOk_all]
  intro a x r e
  rcases List.eq_nil_or_concat r with rfl | ⟨r', z, rfl⟩
  ·have e1 := List.append_inj_right' e rfl
   simp only [List.cons.injEq, and_true] at e1
   subst e1
   rw [hlk, if_pos rfl]
   simp only [cntT, Option.getD_some]
   exact ⟨by show ((0 : Nat) : Int) < s; omega, by show s = s - ((0 : Nat) : Int); omega⟩
  ·rw [List.concat_eq_append] at e ⊢
   have e' : l ++ [(to, o, s, kind, xs)] = (a ++ x :: r') ++ [z] := by rw [e]; simp
   have e1 := List.append_inj_left' e' rfl
   have e2 := List.append_inj_right' e' rfl
   simp only [List.cons.injEq, and_true] at e2
   subst e2
   have h1 := hso a x r' e1
   rw [cntT_snoc, hlk]
   by_cases hxt : x.1 = to
   ·rw [if_pos hxt, if_pos hxt.symm]
    rw [hxt, ← there_lookM h.keys.srt] at h1
    simp only [Option.getD_some]
    rw [hxt]
    exact ⟨by omega, h1.2.trans (sub2 _ _ _ hs)⟩
   ·rw [if_neg hxt, if_neg (Ne.symm hxt)]
    exact h1
 ·rcases hmem y hy with rfl | hy
  ·show s ≤ _; omega
  ·exact Int.le_trans (h.bnd y hy) (by omega)
theorem Inv.ok {o : ByteArray} {l : List OutT.den} {ls : List LastT.den} {B : Int} (h : Inv o l ls B) (hr : rng l) : ∀ x ∈ l, okLet x.2 := by
 intro x hx
 have h1 := h.lets x hx
 obtain ⟨a, r, e⟩ := List.append_of_mem hx
 have h2 := serOk_all.1 h.ser a x r e
 have h3 : (lookM .str (.int .u64) ls x.1).getD (0 : Int) ≤ 18446744073709551615 := by
  cases hs : lookM .str (.int .u64) ls x.1 with
  | none => exact by decide
  | some s => exact (h.keys.key _ (look_mem hs)).2.2.2
 exact ⟨by rw [h1.2.1]; exact (keyOk_size h.ko).2, h1.1, sub3 _ _ _ h2.1 h2.2 h3, (hr x hx).1, (hr x hx).2⟩
theorem Inv.outOk {o : ByteArray} {l : List OutT.den} {ls : List LastT.den} {B : Int} (h : Inv o l ls B) : OutOk o l ls :=
 ⟨keyOk_ne h.ko, (keyOk_size h.ko).2, h.m64, fun y hy => (keyOk_size (h.keys.key y hy).1).2, h.l32, fun y hy => ⟨(keyOk_size (h.key hy)).2, by rw [(h.lets y hy).2.1]; exact (keyOk_size h.ko).2, (h.lets y hy).1⟩⟩
theorem keysN_enc {ls : List LastT.den} {n : Nat} (h : KeysOk ls n) (r : List UInt8) : ∀ i, i ≤ ls.length → keysN (some (lastsE ls ++ r)) i = some (ls.take i, some (lastsE (ls.drop i) ++ r))
 | 0, _ => by simp [keysN]
 | i + 1, hi => by
  rw [keysN, keysN_enc h r i (by omega)]
  have hlt : i < ls.length := by omega
  have hd : ls.drop i = ls[i] :: ls.drop (i + 1) := List.drop_eq_getElem_cons hlt
  have hx := h.key ls[i] (List.getElem_mem hlt)
  have e : lastsE (ls.drop i) ++ r = textB ls[i].1 ++ (numB ls[i].2 ++ (lastsE (ls.drop (i + 1)) ++ r)) := by
   rw [hd]; simp only [lastsE, List.flatMap_cons, List.append_assoc]
  rw [Option.bind_some, e]
  unfold keyStep
  simp only
  have hk40 := (keyOk_size hx.1).2
  rw [rdText_textB (by omega), rdNum_numB hx.2.2]
  have hlast : ltS (lastK (ls.take i)) ls[i].1 = true := by
   unfold lastK
   cases hl : (ls.take i).getLast? with
   | none => exact ltS_empty _ (keyOk_ne hx.1)
   | some y =>
    have hy : y ∈ ls.take i := List.mem_of_getLast? hl
    have hs := h.srt
    rw [← List.take_append_drop i ls, List.pairwise_append] at hs
    exact hs.2.2 y hy ls[i] (by rw [hd]; exact List.mem_cons_self)
  rw [if_neg (fun hh => by
   rcases hh with h9 | h9 | h9 | h9
   ·cases h9
   ·rw [hx.1] at h9; cases h9
   ·exact hx.2.1 h9
   ·rw [hlast] at h9; cases h9)]
  rw [← List.take_append_getElem hlt]
theorem outsN_enc {o : ByteArray} {l : List OutT.den} {ls : List LastT.den} {B : Int} (h : Inv o l ls B) (hr : rng l) (r : List UInt8) : ∀ i, i ≤ l.length → outsN o ls (some (outsE l ++ r)) i = some (l.take i, some (outsE (l.drop i) ++ r))
 | 0, _ => by simp [outsN]
 | i + 1, hi => by
  rw [outsN, outsN_enc h hr r i (by omega)]
  have hlt : i < l.length := by omega
  have hd : l.drop i = l[i] :: l.drop (i + 1) := List.drop_eq_getElem_cons hlt
  have hm := List.getElem_mem hlt
  have hx := h.ok hr _ hm
  have h1 := h.lets _ hm
  have hk := h.key hm
  have e : outsE (l.drop i) ++ r = textB l[i].1 ++ (textB ⟨(letB l[i].2).toArray⟩ ++ (outsE (l.drop (i + 1)) ++ r)) := by
   rw [hd]; simp only [outsE, List.flatMap_cons, List.append_assoc]
  rw [Option.bind_some, e]
  unfold outStep
  simp only
  have hk40 := (keyOk_size hk).2
  have hb := letB_length l[i].2
  have hbs : (⟨(letB l[i].2).toArray⟩ : ByteArray).size = (letB l[i].2).length := by show (letB l[i].2).toArray.size = _; simp
  have ho := (keyOk_size h.ko).2
  have hf : (l[i].2.1 : ByteArray).size ≤ 40 := by rw [h1.2.1]; exact ho
  have ha := h1.1
  rw [rdText_textB (by omega), rdText_textB (by rw [hbs]; omega)]
  have ed : decL (⟨(letB l[i].2).toArray⟩ : ByteArray).data.toList = some l[i].2 := decL_letB hx
  rw [ed]
  simp only
  rw [if_neg (fun hh => by
   rcases hh with h9 | h9 | h9
   ·cases h9
   ·exact h9 h1.2.1
   ·exact h1.2.2 h9)]
  rw [← List.take_append_getElem hlt]
theorem dec_enc {o : ByteArray} {l : List OutT.den} {ls : List LastT.den} {B : Int} (h : Inv o l ls B) (hr : rng l) : decOut (outR o l ls) = some (o, l, ls) := by
 have hm := h.m64
 have hl := h.l32
 have e : outR o l ls = textB o ++ (numB ls.length ++ (lastsE ls ++ (numB l.length ++ (outsE l ++ [])))) := by unfold outR; simp
 unfold decOut
 rw [e]
 have ho := (keyOk_size h.ko).2
 rw [rdText_textB (by omega)]
 simp only
 rw [rdNum_numB (by omega)]
 simp only
 rw [if_neg (fun hh => by
  rcases hh with h9 | h9
  ·rw [h.ko] at h9; cases h9
  ·omega), Int.toNat_natCast, keysN_enc h.keys _ _ (Nat.le_refl _), List.take_length, List.drop_length]
 simp only [lastsE, List.flatMap_nil, List.nil_append]
 rw [rdNum_numB (by omega)]
 simp only
 rw [if_neg (by omega), Int.toNat_natCast, outsN_enc h hr _ _ (Nat.le_refl _), List.take_length, List.drop_length]
 simp only [outsE, List.flatMap_nil, List.nil_append]
 rw [if_pos ⟨h.ser, trivial⟩]
/-! ### the map's keys are the document's -/
theorem perm_of_sub {l1 l2 : List (List UInt8)} (h1 : l1.Nodup) (h2 : ∀ x ∈ l1, x ∈ l2) (h3 : l2.length ≤ l1.length) : l2.Perm l1 := by
 induction l1 generalizing l2 with
 | nil =>
  have : l2 = [] := List.eq_nil_of_length_eq_zero (by simpa using h3)
  subst this
  exact List.Perm.refl _
 | cons x r ih =>
  rw [List.nodup_cons] at h1
  have hx := h2 x (by simp)
  refine (List.perm_cons_erase hx).trans (List.Perm.cons _ (ih h1.2 (fun y hy => ?_) ?_))
  ·exact (List.mem_erase_of_ne (fun e => h1.1 (by rw [← e]; exact hy))).2 (h2 y (List.mem_cons_of_mem _ hy))
  ·rw [List.length_erase_of_mem hx]
   simp only [List.length_cons] at h3
   omega
theorem keys_perm {m : List (ByteArray × Int)} {ls : List LastT.den} {n : Nat} (hk : KeysOk ls n) (h : Rel m ls) : (keysB (vt := .int .u64) m).Perm (keysB (vt := .int .u64) ls) := by
 refine perm_of_sub ?_ (fun x hx => ?_) (by simp [keysB, h.1])
 ·rw [List.Nodup, keysB, List.pairwise_map]
  refine hk.srt.imp fun {a b} hab e => ?_
  rw [ltS_eq, e, decide_eq_true_eq] at hab
  exact List.lt_irrefl _ hab
 ·obtain ⟨y, hy, rfl⟩ := List.mem_map.1 hx
  refine List.mem_map.2 ⟨(y.1, y.2), look_mem ?_, rfl⟩
  rw [h.2, there_lookM hk.srt, look_key hk hy]
theorem srtK_of {m : List (ByteArray × Int)} {ls : List LastT.den} {n : Nat} (hk : KeysOk ls n) (h : Rel m ls) : srtK (vt := .int .u64) m = ls.map Prod.fst := by
 have h1 := keys_perm hk h
 unfold srtK
 rw [mergeSort_of_perm h1]
 have h2 : (keysB (vt := .int .u64) ls).mergeSort leB = keysB (vt := .int .u64) ls := by
  apply List.mergeSort_of_pairwise
  unfold keysB
  rw [List.pairwise_map]
  refine hk.srt.imp fun {a b} hab => ?_
  rw [ltS_eq, decide_eq_true_eq] at hab
  show decide (_ ≤ _) = true
  rw [decide_eq_true_eq]
  exact List.le_of_lt hab
 rw [h2]
 unfold keysB
 rw [List.map_map]
 refine List.map_congr_left fun x _ => ?_
 exact toList_toArrayB x.1
theorem keysE_of {m : List (ByteArray × Int)} {ls : List LastT.den} {n : Nat} (hk : KeysOk ls n) (h : Rel m ls) : keysE m (ls.map Prod.fst) = lastsE ls := by
 unfold keysE lastsE
 rw [List.flatMap_map]
 have : ∀ x ∈ ls, (lookM .str (.int .u64) m x.1).getD (0 : Int) = x.2 := fun x hx => by
  rw [h.2, there_lookM hk.srt, look_key hk hx]; rfl
 clear hk h
 induction ls with
 | nil => rfl
 | cons x r ih =>
  simp only [List.flatMap_cons]
  rw [this x (by simp), ih (fun y hy => this y (List.mem_cons_of_mem _ hy))]
theorem enc_rel {o : ByteArray} {l : List OutT.den} {m : List (ByteArray × Int)} {ls : List LastT.den} {n : Nat} (hk : KeysOk ls n) (h : Rel m ls) : outE o l m = outR o l ls := by
 unfold outE outR
 rw [srtK_of hk h, keysE_of hk h, h.1]
theorem Rel.self {ls : List LastT.den} {n : Nat} (hk : KeysOk ls n) : Rel ls ls := ⟨rfl, fun to => (there_lookM hk.srt to).symm⟩
theorem OutOk.rel {o : ByteArray} {l : List OutT.den} {m : List (ByteArray × Int)} {ls : List LastT.den} {n : Nat} (hk : KeysOk ls n) (h : Rel m ls) (ok : OutOk o l ls) : OutOk o l m :=
 ⟨ok.o0, ok.o40, by rw [h.1]; exact ok.m64, fun y hy => by
  have := (keys_perm hk h).mem_iff.1 (List.mem_map.2 ⟨y, hy, rfl⟩)
  obtain ⟨z, hz, e⟩ := List.mem_map.1 this
  rw [← ba_ext e]; exact ok.k40 z hz, ok.l32, ok.x40⟩
end Go.V
