/- A part of the proof layer, or functions of the given program in it: contracts and their proofs. -/
import Derived.Test.YtkjecjgfkogkoaaP28
namespace Go.V
open Go.Proofs
set_option maxRecDepth 100000
set_option linter.unusedSimpArgs false
set_option linter.unnecessarySimpa false
set_option linter.unusedVariables false

theorem ltS_empty (s : ByteArray) (h : s ≠ ByteArray.empty) : ltS ByteArray.empty s = true := by
  cases h1 : ltS ByteArray.empty s with
  | true => rfl
  | false =>
    cases h2 : ltS s ByteArray.empty with
    | true =>
      rw [ltS_eq] at h2
      have : (ByteArray.empty.data.toList : List UInt8) = [] := rfl
      rw [this] at h2
      simp at h2
    | false => exact absurd (ltS_tot h2 h1) h
theorem lastK_elt {ls : List LastT.den} {i : Nat} (h : ls.length = i + 1) : (elt LastT ls i).1 = lastK ls := by
  have h8 := elt_get (t := LastT) (xs := ls) (m := i) (by omega)
  unfold lastK
  rw [List.getLast?_eq_getElem?, h, Nat.add_sub_cancel, h8]
theorem lookR_srt {ls : List LastT.den} (h : ls.Pairwise fun x y => ltS x.1 y.1 = true) (k : ByteArray) : lookR ls k = lookM .str (.int .u64) ls k := by
  induction ls with
  | nil => rfl
  | cons x r ih =>
    rw [List.pairwise_cons] at h
    have ih := ih h.2
    rw [lookR]
    unfold lookM at ih ⊢
    rw [List.find?_cons]
    by_cases h1 : x.1 = k
    · have e : Ty.beq .str x.1 k = true := by rw [beq_str]; simpa using h1
      rw [e]
      subst h1
      rw [ltS_irr]
      simp
    · have e : Ty.beq .str x.1 k = false := by rw [beq_str]; simpa using h1
      rw [e]
      by_cases h2 : ltS x.1 k = true
      · rw [if_pos h2, ih]
      · rw [if_neg h2, if_neg h1]
        have h3 : ltS k x.1 = true := by
          cases h4 : ltS k x.1 with
          | true => rfl
          | false => exact absurd (ltS_tot (by simpa using h2) h4) h1
        have hn : r.find? (fun e => Ty.beq .str e.1 k) = none := List.find?_eq_none.2 (fun y hy => by
          rw [beq_str]
          simp only [decide_eq_true_eq]
          intro e
          have := h.1 y hy
          rw [e, ltS_asy h3] at this
          cases this)
        rw [hn]
        rfl
theorem look_key {ls : List LastT.den} {n : Nat} (h : KeysOk ls n) {x : LastT.den} (hx : x ∈ ls) : lookM .str (.int .u64) ls x.1 = some x.2 := by
  rw [← lookR_srt h.srt]
  have hs := h.srt
  clear h
  induction ls with
  | nil => simp at hx
  | cons y r ih =>
    rw [List.pairwise_cons] at hs
    rcases List.mem_cons.1 hx with rfl | hx
    · rw [lookR, ltS_irr]; simp
    · rw [lookR, if_pos (hs.1 x hx)]
      exact ih hx hs.2
theorem look_mem {ls : List LastT.den} {k : ByteArray} {s : Int} (h : lookM .str (.int .u64) ls k = some s) : (k, s) ∈ ls := by
  unfold lookM at h
  cases hf : ls.find? (fun e => Ty.beq .str e.1 k) with
  | none => rw [hf] at h; cases h
  | some y =>
    rw [hf] at h
    have h1 := List.find?_some hf
    have h2 := List.mem_of_find?_eq_some hf
    simp only [beq_str, decide_eq_true_eq] at h1
    cases h
    subst h1
    exact h2
theorem there_look {ls : List LastT.den} {n : Nat} (h : KeysOk ls n) (to : ByteArray) : (thereL ls to).isSome = !decide ((lookM .str (.int .u64) ls to).getD (0 : Int) = 0) := by
  rw [thereL_eq, lookR_srt h.srt]
  cases hl : lookM .str (.int .u64) ls to with
  | none => rfl
  | some s =>
    have hm := (h.key _ (look_mem hl)).2.1
    simp only [Option.isSome_some, Option.getD_some]
    rw [decide_eq_false hm]
    rfl
theorem outsN_ok {o : ByteArray} {ls : List LastT.den} {st : Option (List UInt8)} : ∀ {n : Nat} {p : List OutT.den × Option (List UInt8)}, outsN o ls st n = some p → ∀ x ∈ p.1, (lookM .str (.int .u64) ls x.1).getD (0 : Int) ≠ 0 ∧ okLet x.2 ∧ x.2.1 = o
  | 0, p, h => by simp only [outsN, Option.some.injEq] at h; subst h; intro x hx; simp at hx
  | n + 1, p, h => by
    rw [outsN] at h
    cases hq : outsN o ls st n with
    | none => rw [hq] at h; cases h
    | some q =>
      rw [hq] at h
      have ih := outsN_ok hq
      have h' : outStep o ls q = some p := h
      unfold outStep at h'
      simp only at h'
      cases hd : decL (rdText (rdText q.2).2).1.data.toList with
      | none => rw [hd] at h'; cases h'
      | some l =>
        rw [hd] at h'
        simp only at h'
        split at h'
        · cases h'
        · rename_i hc
          simp only [Option.some.injEq] at h'
          subst h'
          intro x hx
          rcases List.mem_append.1 hx with hx | hx
          · exact ih x hx
          · simp at hx
            subst hx
            refine ⟨fun h9 => hc (.inr (.inr h9)), (decL_back hd).2, ?_⟩
            by_cases h9 : l.1 = o
            · exact h9
            · exact absurd (.inr (.inl h9)) hc
theorem keyLets_all {key : ByteArray} {s : Int} : ∀ {l : List OutT.den}, keyLets key s l = true ↔ ∀ (a : List OutT.den) (x : OutT.den) (r : List OutT.den), l = a ++ x :: r → x.1 = key → (cntT key r : Int) < s ∧ x.2.2.1 = s - (cntT key r : Nat)
  | [] => by simp [keyLets]
  | y :: l => by
    rw [keyLets, Bool.and_eq_true, keyLets_all (l := l)]
    constructor
    · rintro ⟨h1, h2⟩ a x r e hx
      cases a with
      | nil =>
        rw [List.nil_append] at e
        injection e with e1 e2
        subst e1 e2
        rw [if_pos hx, decide_eq_true_eq] at h1
        exact h1
      | cons b a =>
        rw [List.cons_append] at e
        injection e with e1 e2
        exact h2 a x r e2 hx
    · intro h
      refine ⟨?_, fun a x r e hx => h (y :: a) x r (by rw [e]; rfl) hx⟩
      by_cases hy : y.1 = key
      · rw [if_pos hy, decide_eq_true_eq]
        exact h [] y l rfl hy
      · rw [if_neg hy]
theorem sub1 (S : Int) (c : Nat) : S - ((c + 1 : Nat) : Int) + 1 = S - (c : Nat) := by omega
theorem serOk_all {ls : List LastT.den} : ∀ {l : List OutT.den}, serOk ls l = true ↔ ∀ (a : List OutT.den) (x : OutT.den) (r : List OutT.den), l = a ++ x :: r → (cntT x.1 r : Int) < (lookM .str (.int .u64) ls x.1).getD (0 : Int) ∧ x.2.2.1 = (lookM .str (.int .u64) ls x.1).getD (0 : Int) - (cntT x.1 r : Nat)
  | [] => by simp [serOk]
  | y :: l => by
    have e0 : cntT y.1 (y :: l) = cntT y.1 l + 1 := by rw [cntT, if_pos rfl]
    rw [serOk, Bool.and_eq_true, Bool.and_eq_true, serOk_all (l := l), decide_eq_true_eq, decide_eq_true_eq, e0]
    constructor
    · rintro ⟨⟨h1, h3⟩, h2⟩ a x r e
      cases a with
      | nil =>
        rw [List.nil_append] at e
        injection e with e1 e2
        subst e1 e2
        exact ⟨by omega, h3.trans (sub1 _ _)⟩
      | cons b a =>
        rw [List.cons_append] at e
        injection e with e1 e2
        exact h2 a x r e2
    · intro h
      have h1 := h [] y l rfl
      exact ⟨⟨by omega, h1.2.trans (sub1 _ _).symm⟩, fun a x r e => h (y :: a) x r (by rw [e]; rfl)⟩
theorem ord_ser {ls : List LastT.den} {n : Nat} (hk : KeysOk ls n) (l : List OutT.den) (hl : ∀ x ∈ l, (lookM .str (.int .u64) ls x.1).getD (0 : Int) ≠ 0) : ordOk ls l = serOk ls l := by
  rw [Bool.eq_iff_iff, serOk_all]
  unfold ordOk
  rw [List.all_eq_true]
  constructor
  · intro h a x r e
    have hx := hl x (by rw [e]; simp)
    cases hs : lookM .str (.int .u64) ls x.1 with
    | none => rw [hs] at hx; exact absurd rfl hx
    | some s =>
      have := keyLets_all.1 (h _ (look_mem hs)) a x r e rfl
      exact this
  · intro h y hy
    rw [keyLets_all]
    intro a x r e hx
    have h1 := h a x r e
    rw [hx, look_key hk hy] at h1
    exact h1

/-- Decode, of the document -/
def C24 : Contract := fun args hp K => match args, hp with
  | [.sl true 1 .byte bs], [] => decK2 (fun o l ls => rfH true true o l ls) (decOut bs) K
  | _, _ => False
def A24 (o : ByteArray) (st : Option (List UInt8)) (n : Nat) : LoopAnn := { G := Nat × (List LastT.den × Option (List UInt8)), I := fun g => ⟨[(4, .ptr 0 0), (5, .ptr 1 0), (36, .int .u64 n), (37, .int .u64 g.1)], rdH g.2.2 :: [.struct [.str o, .own 2, .own 3], .row true 72 OutT [], .row true 24 LastT g.2.1]⟩, R := fun _ g => g.1 ≤ n ∧ keysN st g.1 = some g.2, μ := fun g => n - g.1 }
theorem A24_I {o st n} (g : Nat × (List LastT.den × Option (List UInt8))) : (A24 o st n).I g = ⟨[(4, .ptr 0 0), (5, .ptr 1 0), (36, .int .u64 n), (37, .int .u64 g.1)], rdH g.2.2 :: [.struct [.str o, .own 2, .own 3], .row true 72 OutT [], .row true 24 LastT g.2.1]⟩ := rfl
structure G24 where
  i : Nat
  l : List OutT.den
  st : Option (List UInt8)
def B24 (o : ByteArray) : LoopAnn := { G := (List LastT.den × Option (List UInt8) × Nat) × G24, I := fun g => ⟨[(4, .ptr 0 0), (5, .ptr 1 0), (99, .int .u64 g.1.2.2), (100, .int .u64 g.2.i)], rdH g.2.st :: [.struct [.str o, .own 2, .own 3], .row true 72 OutT g.2.l, .row true 24 LastT g.1.1]⟩, R := fun g0 g => g.1 = g0.1 ∧ g.2.i ≤ g.1.2.2 ∧ outsN o g.1.1 g.1.2.1 g.2.i = some (g.2.l, g.2.st), μ := fun g => g.1.2.2 - g.2.i }
theorem B24_I {o} (g : (List LastT.den × Option (List UInt8) × Nat) × G24) : (B24 o).I g = ⟨[(4, .ptr 0 0), (5, .ptr 1 0), (99, .int .u64 g.1.2.2), (100, .int .u64 g.2.i)], rdH g.2.st :: [.struct [.str o, .own 2, .own 3], .row true 72 OutT g.2.l, .row true 24 LastT g.1.1]⟩ := rfl
theorem dec_bad {bs : List UInt8} (h : (rdNum (rdText (some bs)).2).2 = none) : decOut bs = none := by
  unfold decOut
  simp only
  split
  · rfl
  · have h0 := rdNum_none (Prod.ext rfl h)
    have e : rdNum (rdText (some bs)).2 = (0, none) := Prod.ext h0 h
    rw [e]
    rfl
theorem s24 : Sound Try.prog 24 C24 := by
  refine sound_of_okF ok24 (Γ := [(52, C52), (53, C53), (54, C54), (29, C29), (55, C55), (56, C56), (57, C57), (58, C58)]) (.cons s52 (callable_of_okF ok52) (.cons s53 (callable_of_okF ok53) (.cons s54 (callable_of_okF ok54) (.cons s29 (callable_of_okF ok29) (.cons s55 (callable_of_okF ok55) (.cons s56 (callable_of_okF ok56) (.cons s57 (callable_of_okF ok57) (.cons s58 (callable_of_okF ok58) .nil)))))))) ?_
  intro args hp K h
  unfold C24 at h
  split at h
  · rename_i bs
    refine ⟨by simp, [(1, A24 (rdText (some bs)).1 (rdNum (rdText (some bs)).2).2 (rdNum (rdText (some bs)).2).1.toNat), (2, B24 (rdText (some bs)).1)], ?_⟩
    simp (maxSteps := 2000000) only [a24, r24, C52, C53, C54, C29, rdH, rfH, go_sem, eq_self, and_self, Int.natCast_pos, Int.le_refl, Nat.le_refl, Int.natCast_nonneg, Int.ofNat_lt, Int.ofNat_le, Int.reduceLT, Int.reduceLE, Int.reduceEq, Int.reduceNe, Int.reduceAdd, Int.reduceSub, Int.reduceMul, Int.reduceToNat, Int.reduceNeg, Nat.reduceEqDiff, Nat.reduceLeDiff, Nat.reduceSub, Nat.reduceMul, Nat.reduceLT, Nat.reduceBEq, Nat.reduceAdd]
    have hbad := dec_bad (bs := bs)
    unfold decOut at h hbad
    simp only at h hbad
    have hr := rdNum_in (rdText (some bs)).2
    generalize rdText (some bs) = a at *
    generalize rdNum a.2 = c at *
    have fail0 : c.2 = none → K (.tup [.nilp, .int .i64 2]) [] := fun hc => h.1 (hbad hc)
    intro _
    refine sw_intro (fun hb => fail0 (by cases hq : c.2 with | none => rfl | some r => rw [hq] at hb; cases hb)) (fun hb => ?_)
    refine sw_intro (fun hb2 => ?_) (fun hb2 => h.1 (by rw [if_pos (.inl hb2)]))
    rintro cc rfl
    refine sw_intro (fun hc => ?_) (fun hc => ?_) <;> simp only [decide_eq_true_eq, decide_eq_false_iff_not] at hc
    · exact h.1 (by rw [if_pos (.inr hc)])
    · rw [if_neg (fun hh => hh.elim (fun h9 => by rw [hb2] at h9; cases h9) hc)] at h
      refine loop_intro (A := A24 a.1 c.2 c.1.toNat) ((0 : Nat), ([], c.2)) ?_ ⟨Nat.zero_le _, rfl⟩ ?_
      · simp (maxSteps := 2000000) only [A24_I, rdH, go_sem, eq_self, and_self, Int.natCast_pos, Int.le_refl, Nat.le_refl, Int.natCast_nonneg, Int.ofNat_lt, Int.ofNat_le, Int.reduceLT, Int.reduceLE, Int.reduceEq, Int.reduceNe, Int.reduceAdd, Int.reduceSub, Int.reduceMul, Int.reduceToNat, Int.reduceNeg, Nat.reduceEqDiff, Nat.reduceLeDiff, Nat.reduceSub, Nat.reduceMul, Nat.reduceLT, Nat.reduceBEq, Nat.reduceAdd]
        rw [show ((c.1.toNat : Nat) : Int) = c.1 by omega]
        rfl
      · rintro ⟨i, ls, st⟩ ⟨hi, hks⟩
        simp only at hi hks
        simp (maxSteps := 2000000) only [A24_I, rdH, C53, C54, C29, go_sem, eq_self, and_self, Int.natCast_pos, Int.le_refl, Nat.le_refl, Int.natCast_nonneg, Int.ofNat_lt, Int.ofNat_le, Int.reduceLT, Int.reduceLE, Int.reduceEq, Int.reduceNe, Int.reduceAdd, Int.reduceSub, Int.reduceMul, Int.reduceToNat, Int.reduceNeg, Nat.reduceEqDiff, Nat.reduceLeDiff, Nat.reduceSub, Nat.reduceMul, Nat.reduceLT, Nat.reduceBEq, Nat.reduceAdd]
        have hko := keysN_ok hks
        simp only at hko
        have hlen := hko.len
        have hmx := maxLen_val
        rintro cc rfl
        refine sw_intro (fun hc2 => ?_) (fun hc2 => ?_) <;> simp only [decide_eq_true_eq, decide_eq_false_iff_not] at hc2
        · have fail : keyStep (ls, st) = none → K (.tup [.nilp, .int .i64 2]) [] := fun hn => h.1 (by
            have h1 : keysN c.2 (i + 1) = none := by rw [keysN, hks]; exact hn
            rw [keysN_none h1 c.1.toNat (by omega)])
          unfold keyStep at fail
          simp only at fail
          have hrn := rdNum_in (rdText st).2
          intro _
          refine sw_intro (fun hb3 => fail (if_pos (.inl hb3))) (fun hb3 => ?_)
          refine sw_intro (fun hb4 => ?_) (fun hb4 => fail (if_pos (.inr (.inl hb4))))
          rintro cc rfl
          refine sw_intro (fun hb5 => fail (if_pos (.inr (.inr (.inl (by simpa using hb5)))))) (fun hb5 => ?_)
          have fin : ltS (lastK ls) (rdText st).1 = true → ((ls.length + 1) * 24 ≤ 140737488355328 → inR .u64 (i : Int) → inR .u64 1 → ∀ m : Int, m = IntKind.u64.wrap ((i : Int) + 1) → lpE (A24 a.1 c.2 c.1.toNat) 0 [4, 5, 36, 37] ((0 : Nat), ([], c.2)) (i, (ls, st)) ⟨[(4, .ptr 0 0), (5, .ptr 1 0), (36, .int .u64 c.1.toNat), (37, .int .u64 m)],
              [.struct [.sl true 1 .byte ((rdNum (rdText st).2).2.getD []), .bool (rdNum (rdText st).2).2.isNone], .struct [.str a.1, .own 2, .own 3], .row true 72 OutT [], .row true 24 LastT (ls ++ [((rdText st).1, (rdNum (rdText st).2).1)]), .struct [.str (rdText st).1, .int .u64 (rdNum (rdText st).2).1], .row true 24 (.pair .str (.int .u64)) [((rdText st).1, (rdNum (rdText st).2).1)]]⟩) := by
            rintro hlt _ _ _ m hm
            rw [wu64 (by omega)] at hm
            subst hm
            have hks' : keysN c.2 (i + 1) = some (ls ++ [((rdText st).1, (rdNum (rdText st).2).1)], (rdNum (rdText st).2).2) := by
              rw [keysN, hks]
              show keyStep (ls, st) = _
              unfold keyStep
              simp only
              exact if_neg (fun hh => by
                rcases hh with h9 | h9 | h9 | h9
                · rw [hb3] at h9; cases h9
                · rw [hb4] at h9; cases h9
                · simp [h9] at hb5
                · rw [hlt] at h9; cases h9)
            refine lpE_intro (A := A24 a.1 c.2 c.1.toNat) (i + 1, (ls ++ [((rdText st).1, (rdNum (rdText st).2).1)], (rdNum (rdText st).2).2)) ?_ ⟨by simp only; omega, hks'⟩ (by show c.1.toNat - (i + 1) < c.1.toNat - i; omega)
            simp (maxSteps := 2000000) only [A24_I, rdH, go_sem, eq_self, and_self, Int.natCast_pos, Int.le_refl, Nat.le_refl, Int.natCast_nonneg, Int.ofNat_lt, Int.ofNat_le, Int.reduceLT, Int.reduceLE, Int.reduceEq, Int.reduceNe, Int.reduceAdd, Int.reduceSub, Int.reduceMul, Int.reduceToNat, Int.reduceNeg, Nat.reduceEqDiff, Nat.reduceLeDiff, Nat.reduceSub, Nat.reduceMul, Nat.reduceLT, Nat.reduceBEq, Nat.reduceAdd]
            rfl
          rintro cc rfl
          refine sw_intro (fun hi0 => ?_) (fun hi0 => ?_) <;> simp only [decide_eq_true_eq, decide_eq_false_iff_not] at hi0
          · rintro _ _ m hm
            rw [wu64 (by omega)] at hm
            subst hm
            refine nd_intro (by omega) (nd_intro (by omega) ?_)
            rintro cc rfl
            have e1 : ((i : Int) - 1).toNat = i - 1 := by omega
            rw [e1, lastK_elt (by omega)]
            refine sw_intro (fun h9 => fail (if_pos (.inr (.inr (.inr (by simpa using h9)))))) (fun h9 => ⟨fun _ => by omega, fin (by simpa using h9)⟩)
          · have hnil : ls = [] := List.eq_nil_of_length_eq_zero (by omega)
            exact ⟨fun _ => by omega, fin (by rw [hnil]; exact ltS_empty _ (fun h9 => by rw [h9] at hb4; exact absurd hb4 (by decide)))⟩
        · obtain rfl : i = c.1.toNat := by omega
          rw [hks] at h
          simp only at h
          have hrd := rdNum_in st
          have hbad2 : (rdNum st).2 = none → (rdNum st).1 = 0 := fun h0 => rdNum_none (Prod.ext rfl h0)
          generalize rdNum st = d at *
          have fail2 : d.2 = none → K (.tup [.nilp, .int .i64 2]) [] := fun h0 => h.1 (by
            have e : d.1 = 0 := hbad2 h0
            rw [e, h0]
            rfl)
          refine sw_intro (fun hb3 => fail2 (by cases hq : d.2 with | none => rfl | some r => rw [hq] at hb3; cases hb3)) (fun hb3 => ?_)
          rintro cc rfl
          refine sw_intro (fun hd => ?_) (fun hd => ?_) <;> simp only [decide_eq_true_eq, decide_eq_false_iff_not] at hd
          · exact h.1 (by rw [if_pos hd])
          · rw [if_neg hd] at h
            refine loop_intro (A := B24 a.1) ((ls, d.2, d.1.toNat), ⟨0, [], d.2⟩) ?_ ⟨rfl, Nat.zero_le _, rfl⟩ ?_
            · simp (maxSteps := 2000000) only [B24_I, rdH, go_sem, eq_self, and_self, Int.natCast_pos, Int.le_refl, Nat.le_refl, Int.natCast_nonneg, Int.ofNat_lt, Int.ofNat_le, Int.reduceLT, Int.reduceLE, Int.reduceEq, Int.reduceNe, Int.reduceAdd, Int.reduceSub, Int.reduceMul, Int.reduceToNat, Int.reduceNeg, Nat.reduceEqDiff, Nat.reduceLeDiff, Nat.reduceSub, Nat.reduceMul, Nat.reduceLT, Nat.reduceBEq, Nat.reduceAdd]
              rw [show ((d.1.toNat : Nat) : Int) = d.1 by omega]
              rfl
            · rintro ⟨⟨ls', st0, n'⟩, ⟨j, l, st'⟩⟩ ⟨h1, h2, h3⟩
              simp only [Prod.mk.injEq] at h1 h2 h3
              obtain ⟨rfl, rfl, rfl⟩ := h1
              simp (maxSteps := 2000000) only [B24_I, rdH, C53, C55, decK, C56, C57, C58, rfH, go_sem, eq_self, and_self, Int.natCast_pos, Int.le_refl, Nat.le_refl, Int.natCast_nonneg, Int.ofNat_lt, Int.ofNat_le, Int.reduceLT, Int.reduceLE, Int.reduceEq, Int.reduceNe, Int.reduceAdd, Int.reduceSub, Int.reduceMul, Int.reduceToNat, Int.reduceNeg, Nat.reduceEqDiff, Nat.reduceLeDiff, Nat.reduceSub, Nat.reduceMul, Nat.reduceLT, Nat.reduceBEq, Nat.reduceAdd]
              have hll := outsN_len h3
              simp only at hll
              rintro cc rfl
              refine sw_intro (fun hj => ?_) (fun hj => ?_) <;> simp only [decide_eq_true_eq, decide_eq_false_iff_not] at hj
              · have fail : outStep a.1 ls' (l, st') = none → K (.tup [.nilp, .int .i64 2]) [] := fun hn => h.1 (by
                  have h1 : outsN a.1 ls' d.2 (j + 1) = none := by rw [outsN, h3]; exact hn
                  rw [outsN_none h1 d.1.toNat (by omega)])
                have succ : ∀ q, outStep a.1 ls' (l, st') = some q → outsN a.1 ls' d.2 (j + 1) = some q := fun q hq => by
                  rw [outsN, h3]; exact hq
                unfold outStep at fail succ
                simp only at fail succ
                intro _ hs2
                refine ⟨hs2, fun hn => ?_, fun lt hlt => ?_⟩
                · have := fail (by rw [hn])
                  exact sw_intro (fun _ => this) (fun _ => this)
                · rw [hlt] at fail succ
                  simp only at fail succ
                  refine sw_intro (fun hb4 => fail (if_pos (.inl hb4))) (fun hb4 => ?_)
                  rintro cc rfl
                  refine sw_intro (fun hb5 => fail (if_pos (.inr (.inl (by simpa using hb5))))) (fun hb5 => ?_)
                  rw [there_look hko]
                  refine sw_intro (fun hb6 => ⟨fun _ => by omega, ?_⟩) (fun hb6 => fail (if_pos (.inr (.inr (by simpa using hb6)))))
                  have succ := succ _ (if_neg (fun hh => by
                    rcases hh with h9 | h9 | h9
                    · rw [hb4] at h9; cases h9
                    · simp only [Bool.not_eq_false', decide_eq_true_eq] at hb5
                      exact h9 hb5
                    · simp [h9] at hb6))
                  rintro _ _ _ m hm
                  rw [wu64 (by omega)] at hm
                  subst hm
                  refine lpE_intro (A := B24 a.1) ((ls', d.2, d.1.toNat), ⟨j + 1, l ++ [((rdText st').1, lt)], (rdText (rdText st').2).2⟩) ?_ ⟨rfl, by simp only; omega, succ⟩ (by show d.1.toNat - (j + 1) < d.1.toNat - j; omega)
                  simp (maxSteps := 2000000) only [B24_I, rdH, go_sem, eq_self, and_self, Int.natCast_pos, Int.le_refl, Nat.le_refl, Int.natCast_nonneg, Int.ofNat_lt, Int.ofNat_le, Int.reduceLT, Int.reduceLE, Int.reduceEq, Int.reduceNe, Int.reduceAdd, Int.reduceSub, Int.reduceMul, Int.reduceToNat, Int.reduceNeg, Nat.reduceEqDiff, Nat.reduceLeDiff, Nat.reduceSub, Nat.reduceMul, Nat.reduceLT, Nat.reduceBEq, Nat.reduceAdd]
                  rfl
              · obtain rfl : j = d.1.toNat := by omega
                rw [h3] at h
                simp only at h
                refine sw_intro (fun he => ⟨by omega, fun x hx => (hko.key x hx).2.2.1, ?_⟩) (fun he => h.1 (by rw [if_neg (fun hh => by simp [hh.2] at he)]))
                rw [ord_ser hko l (fun x hx => (outsN_ok h3 x hx).1)]
                refine sw_intro (fun hs => ?_) (fun hs => h.1 (by rw [if_neg (fun hh => by rw [hs] at hh; cases hh.1)]))
                exact h.2 a.1 l ls' (by rw [if_pos ⟨hs, by simpa using he⟩])
  · exact h.elim
end Go.V
