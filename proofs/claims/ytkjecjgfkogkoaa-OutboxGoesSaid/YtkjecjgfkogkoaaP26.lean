/- A part of the proof layer, or functions of the given program in it: contracts and their proofs. -/
import Derived.Test.YtkjecjgfkogkoaaP25
import Derived.Test.YtkjecjgfkogkoaaP8
namespace Go.V
open Go.Proofs
set_option maxRecDepth 100000
set_option linter.unusedSimpArgs false
set_option linter.unnecessarySimpa false
set_option linter.unusedVariables false

/-! ### an outbox of bytes, plainly -/
def lastK (ls : List LastT.den) : ByteArray := match ls.getLast? with | some x => x.1 | none => ByteArray.empty
def keyStep (a : List LastT.den × Option (List UInt8)) : Option (List LastT.den × Option (List UInt8)) :=
  let x := rdText a.2
  let y := rdNum x.2
  if y.2.isNone = true ∨ keyOk x.1 = false ∨ y.1 = 0 ∨ ltS (lastK a.1) x.1 = false then none else some (a.1 ++ [(x.1, y.1)], y.2)
def keysN (st : Option (List UInt8)) : Nat → Option (List LastT.den × Option (List UInt8))
  | 0 => some ([], st)
  | n + 1 => (keysN st n).bind keyStep
def outStep (o : ByteArray) (ls : List LastT.den) (a : List OutT.den × Option (List UInt8)) : Option (List OutT.den × Option (List UInt8)) :=
  let x := rdText a.2
  let y := rdText x.2
  match decL y.1.data.toList with
  | none => none
  | some l => if y.2.isNone = true ∨ l.1 ≠ o ∨ (lookM .str (.int .u64) ls x.1).getD (0 : Int) = 0 then none else some (a.1 ++ [(x.1, l)], y.2)
def outsN (o : ByteArray) (ls : List LastT.den) (st : Option (List UInt8)) : Nat → Option (List OutT.den × Option (List UInt8))
  | 0 => some ([], st)
  | n + 1 => (outsN o ls st n).bind (outStep o ls)
def cntT (to : ByteArray) : List OutT.den → Nat
  | [] => 0
  | x :: r => if x.1 = to then cntT to r + 1 else cntT to r
/-- Have the letters to each key the last serials, in order? -/
def serOk (ls : List LastT.den) : List OutT.den → Bool
  | [] => true
  | x :: r => decide (((cntT x.1 (x :: r) : Nat) : Int) ≤ (lookM .str (.int .u64) ls x.1).getD (0 : Int)) && decide (x.2.2.1 = (lookM .str (.int .u64) ls x.1).getD (0 : Int) - (cntT x.1 (x :: r) : Nat) + 1) && serOk ls r
def decOut (bs : List UInt8) : Option (ByteArray × List OutT.den × List LastT.den) :=
  let a := rdText (some bs)
  let c := rdNum a.2
  if keyOk a.1 = false ∨ 64 < c.1 then none else
  match keysN c.2 c.1.toNat with
  | none => none
  | some p =>
    let d := rdNum p.2
    if 32 < d.1 then none else
    match outsN a.1 p.1 d.2 d.1.toNat with
    | none => none
    | some q => if serOk p.1 q.1 = true ∧ q.2 = some [] then some (a.1, q.1, p.1) else none

theorem keysN_none {st : Option (List UInt8)} {i : Nat} (h : keysN st i = none) : ∀ n, i ≤ n → keysN st n = none := by
  intro n hn
  induction n with
  | zero =>
    have : i = 0 := by omega
    rw [← this]; exact h
  | succ n ih =>
    rcases Nat.lt_or_ge n i with h1 | h1
    · have : i = n + 1 := by omega
      rw [← this]; exact h
    · rw [keysN, ih h1]; rfl
theorem outsN_none {o ls} {st : Option (List UInt8)} {i : Nat} (h : outsN o ls st i = none) : ∀ n, i ≤ n → outsN o ls st n = none := by
  intro n hn
  induction n with
  | zero =>
    have : i = 0 := by omega
    rw [← this]; exact h
  | succ n ih =>
    rcases Nat.lt_or_ge n i with h1 | h1
    · have : i = n + 1 := by omega
      rw [← this]; exact h
    · rw [outsN, ih h1]; rfl

/-- The keys that were read: in order, few, none of them nothing. -/
structure KeysOk (ls : List LastT.den) (n : Nat) : Prop where
  len : ls.length = n
  srt : ls.Pairwise fun x y => ltS x.1 y.1 = true
  key : ∀ x ∈ ls, keyOk x.1 = true ∧ x.2 ≠ 0 ∧ 0 ≤ x.2 ∧ x.2 ≤ 18446744073709551615
theorem lastK_snoc (ls : List LastT.den) (x : LastT.den) : lastK (ls ++ [x]) = x.1 := by simp [lastK]
theorem ltS_last {ls : List LastT.den} {k : ByteArray} (h : ls.Pairwise fun x y => ltS x.1 y.1 = true) (hk : ltS (lastK ls) k = true) : ∀ x ∈ ls, ltS x.1 k = true := by
  intro x hx
  rcases List.eq_nil_or_concat ls with rfl | ⟨r, y, rfl⟩
  · simp at hx
  · rw [List.concat_eq_append] at *
    rw [lastK_snoc] at hk
    rw [List.pairwise_append] at h
    rcases List.mem_append.1 hx with hx | hx
    · exact ltS_trans (h.2.2 x hx y (by simp)) hk
    · simp at hx; subst hx; exact hk
theorem keysN_ok {st : Option (List UInt8)} : ∀ {n : Nat} {p : List LastT.den × Option (List UInt8)}, keysN st n = some p → KeysOk p.1 n
  | 0, p, h => by
    simp only [keysN, Option.some.injEq] at h
    subst h
    exact ⟨rfl, List.Pairwise.nil, fun x hx => by simp at hx⟩
  | n + 1, p, h => by
    rw [keysN] at h
    cases hq : keysN st n with
    | none => rw [hq] at h; cases h
    | some q =>
      rw [hq] at h
      have ih := keysN_ok hq
      simp only [Option.bind_some, keyStep] at h
      split at h
      · cases h
      · rename_i hc
        simp only [Option.some.injEq] at h
        subst h
        have hr := rdNum_in (rdText q.2).2
        refine ⟨by simp [ih.len], ?_, ?_⟩
        · rw [List.pairwise_append]
          refine ⟨ih.srt, List.pairwise_singleton _ _, fun x hx y hy => ?_⟩
          simp at hy; subst hy
          refine ltS_last ih.srt ?_ x hx
          cases hb : ltS (lastK q.1) (rdText q.2).1 with
          | true => rfl
          | false => exact absurd (.inr (.inr (.inr hb))) hc
        · intro x hx
          rcases List.mem_append.1 hx with hx | hx
          · exact ih.key x hx
          · simp at hx; subst hx
            refine ⟨?_, fun h0 => hc (.inr (.inr (.inl h0))), hr⟩
            cases hb : keyOk (rdText q.2).1 with
            | true => rfl
            | false => exact absurd (.inr (.inl hb)) hc

/-- A key's letters, from behind. -/
def keyLets (key : ByteArray) (s : Int) : List OutT.den → Bool
  | [] => true
  | x :: r => (if x.1 = key then decide ((cntT key r : Int) < s ∧ x.2.2.1 = s - (cntT key r : Nat)) else true) && keyLets key s r
def ordOk (ls : List LastT.den) (l : List OutT.den) : Bool := ls.all fun x => keyLets x.1 x.2 l

theorem keyLets_drop {key : ByteArray} {s : Int} : ∀ (l : List OutT.den) (j : Nat), keyLets key s l = true → keyLets key s (l.drop j) = true
  | [], j, h => by simp [keyLets]
  | x :: r, 0, h => h
  | x :: r, j + 1, h => by
    simp only [keyLets, Bool.and_eq_true] at h
    exact keyLets_drop r j h.2
theorem ordOk_false {ls : List LastT.den} {l : List OutT.den} {i j : Nat} (hi : i < ls.length) (h : keyLets (elt LastT ls i).1 (elt LastT ls i).2 (l.drop j) = false) : ordOk ls l = false := by
  cases ho : ordOk ls l with
  | false => rfl
  | true =>
    have h1 := List.all_eq_true.1 ho (elt LastT ls i) (List.mem_of_getElem? (elt_get hi))
    rw [keyLets_drop l j h1] at h
    cases h
theorem ordOk_next {ls : List LastT.den} {l : List OutT.den} {i : Nat} (hi : i < ls.length) (h1 : ordOk (ls.take i) l = true) (h : keyLets (elt LastT ls i).1 (elt LastT ls i).2 l = true) : ordOk (ls.take (i + 1)) l = true := by
  rw [← take_elt hi]
  unfold ordOk at h1 ⊢
  rw [List.all_append, h1]
  simp [h]
theorem sub_succ (a : Int) (b : Nat) : a - ((b + 1 : Nat) : Int) = a - b - 1 := by omega
/-- ordered -/
def C58 : Contract := fun args hp K => match args with
  | [.ptr 0 0] => onRf hp fun o L ls => L.length ≤ 100 ∧ (∀ x ∈ ls, 0 ≤ x.2) ∧ K (.bool (ordOk ls L)) hp
  | _ => False
def L58 (o : ByteArray) (L : List OutT.den) (ls : List LastT.den) : LoopAnn := { G := Nat, I := fun i => ⟨[(0, .ptr 0 0), (10, .int .i64 ls.length), (11, .int .i64 i)], rfH false false o L ls⟩, R := fun _ i => i ≤ ls.length ∧ ordOk (ls.take i) L = true, μ := fun i => ls.length - i }
theorem L58_I {o L ls} (i : Nat) : (L58 o L ls).I i = ⟨[(0, .ptr 0 0), (10, .int .i64 ls.length), (11, .int .i64 i)], rfH false false o L ls⟩ := rfl
def M58 (o : ByteArray) (L : List OutT.den) (ls : List LastT.den) : LoopAnn := { G := Nat × Nat, I := fun g => ⟨[(0, .ptr 0 0), (3, .int .i64 g.1), (4, .int .u64 ((elt LastT ls g.1).2 - (cntT (elt LastT ls g.1).1 (L.drop g.2) : Nat))), (5, .int .i64 ((g.2 : Int) - 1)), (10, .int .i64 ls.length), (11, .int .i64 g.1)], rfH false false o L ls⟩, R := fun g0 g => g.1 = g0.1 ∧ g.2 ≤ L.length ∧ keyLets (elt LastT ls g.1).1 (elt LastT ls g.1).2 (L.drop g.2) = true, μ := fun g => g.2 }
theorem M58_I {o L ls} (g : Nat × Nat) : (M58 o L ls).I g = ⟨[(0, .ptr 0 0), (3, .int .i64 g.1), (4, .int .u64 ((elt LastT ls g.1).2 - (cntT (elt LastT ls g.1).1 (L.drop g.2) : Nat))), (5, .int .i64 ((g.2 : Int) - 1)), (10, .int .i64 ls.length), (11, .int .i64 g.1)], rfH false false o L ls⟩ := rfl
theorem s58 : Sound Try.prog 58 C58 := by
  refine sound_of_okF ok58 (Γ := []) .nil ?_
  intro args hp K h
  unfold C58 at h
  split at h
  · obtain ⟨o, L, ls, rfl, hl, hs, h⟩ := h
    refine ⟨by simp, [(1, L58 o L ls), (2, M58 o L ls)], ?_⟩
    unfold rfH at h ⊢
    simp (maxSteps := 2000000) only [a58, r58, go_sem, eq_self, and_self, Int.natCast_pos, Int.le_refl, Nat.le_refl, Int.natCast_nonneg, Int.ofNat_lt, Int.ofNat_le, Int.reduceLT, Int.reduceLE, Int.reduceEq, Int.reduceNe, Int.reduceAdd, Int.reduceSub, Int.reduceMul, Int.reduceToNat, Int.reduceNeg, Nat.reduceEqDiff, Nat.reduceLeDiff, Nat.reduceSub, Nat.reduceMul, Nat.reduceLT, Nat.reduceBEq, Nat.reduceAdd]
    rintro _ _ m rfl
    refine loop_intro (A := L58 o L ls) (0 : Nat) ?_ ⟨Nat.zero_le _, by rw [List.take_zero]; rfl⟩ ?_
    · simp (maxSteps := 2000000) only [L58_I, rfH, go_sem, eq_self, and_self, Int.natCast_pos, Int.le_refl, Nat.le_refl, Int.natCast_nonneg, Int.ofNat_lt, Int.ofNat_le, Int.reduceLT, Int.reduceLE, Int.reduceEq, Int.reduceNe, Int.reduceAdd, Int.reduceSub, Int.reduceMul, Int.reduceToNat, Int.reduceNeg, Nat.reduceEqDiff, Nat.reduceLeDiff, Nat.reduceSub, Nat.reduceMul, Nat.reduceLT, Nat.reduceBEq, Nat.reduceAdd]
      rfl
    · intro (i : Nat) (hi : i ≤ ls.length ∧ ordOk (ls.take i) L = true)
      simp (maxSteps := 2000000) only [L58_I, rfH, go_sem, eq_self, and_self, Int.natCast_pos, Int.le_refl, Nat.le_refl, Int.natCast_nonneg, Int.ofNat_lt, Int.ofNat_le, Int.reduceLT, Int.reduceLE, Int.reduceEq, Int.reduceNe, Int.reduceAdd, Int.reduceSub, Int.reduceMul, Int.reduceToNat, Int.reduceNeg, Nat.reduceEqDiff, Nat.reduceLeDiff, Nat.reduceSub, Nat.reduceMul, Nat.reduceLT, Nat.reduceBEq, Nat.reduceAdd]
      have := maxLen_val
      rintro c rfl
      refine sw_intro (fun hc => ?_) (fun hc => ?_) <;> simp only [decide_eq_true_eq, decide_eq_false_iff_not] at hc
      · refine nd_intro hc ?_
        have hx := hs (elt LastT ls i) (List.mem_of_getElem? (elt_get hc))
        rintro _ _ m rfl _ _ m1 hm1
        rw [w64 (by omega)] at hm1
        subst hm1
        refine loop_intro (A := M58 o L ls) (i, L.length) ?_ ⟨rfl, Nat.le_refl _, by rw [List.drop_length]; rfl⟩ ?_
        · simp (maxSteps := 2000000) only [M58_I, rfH, go_sem, eq_self, and_self, Int.natCast_pos, Int.le_refl, Nat.le_refl, Int.natCast_nonneg, Int.ofNat_lt, Int.ofNat_le, Int.reduceLT, Int.reduceLE, Int.reduceEq, Int.reduceNe, Int.reduceAdd, Int.reduceSub, Int.reduceMul, Int.reduceToNat, Int.reduceNeg, Nat.reduceEqDiff, Nat.reduceLeDiff, Nat.reduceSub, Nat.reduceMul, Nat.reduceLT, Nat.reduceBEq, Nat.reduceAdd]
          rw [List.drop_length]
          simp [cntT]
        · rintro ⟨i', j⟩ ⟨h1, h2, h3⟩
          simp only at h1 h2 h3
          subst h1
          simp (maxSteps := 2000000) only [M58_I, rfH, go_sem, eq_self, and_self, Int.natCast_pos, Int.le_refl, Nat.le_refl, Int.natCast_nonneg, Int.ofNat_lt, Int.ofNat_le, Int.reduceLT, Int.reduceLE, Int.reduceEq, Int.reduceNe, Int.reduceAdd, Int.reduceSub, Int.reduceMul, Int.reduceToNat, Int.reduceNeg, Nat.reduceEqDiff, Nat.reduceLeDiff, Nat.reduceSub, Nat.reduceMul, Nat.reduceLT, Nat.reduceBEq, Nat.reduceAdd]
          rintro c rfl
          refine sw_intro (fun hj => ?_) (fun hj => ?_) <;> simp only [decide_eq_true_eq, decide_eq_false_iff_not] at hj
          · obtain ⟨k, rfl⟩ : ∃ k, j = k + 1 := ⟨j - 1, by omega⟩
            have ek : ((k + 1 : Nat) : Int) - 1 = (k : Int) := by omega
            simp only [ek, Int.toNat_natCast]
            have hk : k < L.length := by omega
            refine nd_intro ⟨by omega, by omega⟩ (nd_intro hk (nd_intro hc ?_))
            have hd : L.drop k = elt OutT L k :: L.drop (k + 1) := by
              have h8 := elt_get (t := OutT) hk
              obtain ⟨h9, h10⟩ := List.getElem?_eq_some_iff.1 h8
              rw [← h10]
              exact List.drop_eq_getElem_cons hk
            generalize hkey : elt LastT ls i' = kk at *
            generalize hxx : elt OutT L k = xx at *
            rintro c rfl
            refine sw_intro (fun hne => ?_) (fun hne => ?_) <;> simp only [Bool.not_eq_true', Bool.not_eq_false', decide_eq_true_eq, decide_eq_false_iff_not] at hne
            · rintro _ _ m hm
              rw [w64 (by omega)] at hm
              subst hm
              refine lpE_intro (A := M58 o L ls) (i', k) ?_ ⟨rfl, by simp only; omega, ?_⟩ (by show k < k + 1; omega)
              · simp (maxSteps := 2000000) only [M58_I, rfH, go_sem, eq_self, and_self, Int.natCast_pos, Int.le_refl, Nat.le_refl, Int.natCast_nonneg, Int.ofNat_lt, Int.ofNat_le, Int.reduceLT, Int.reduceLE, Int.reduceEq, Int.reduceNe, Int.reduceAdd, Int.reduceSub, Int.reduceMul, Int.reduceToNat, Int.reduceNeg, Nat.reduceEqDiff, Nat.reduceLeDiff, Nat.reduceSub, Nat.reduceMul, Nat.reduceLT, Nat.reduceBEq, Nat.reduceAdd]
                rw [hkey, hd, cntT, if_neg hne]
              · simp only [hkey]
                rw [hd, keyLets, if_neg hne, h3]
                rfl
            · rintro c rfl
              refine sw_intro (fun h0 => ?_) (fun h0 => ?_) <;> simp only [decide_eq_true_eq, decide_eq_false_iff_not] at h0
              · have hf : ordOk ls L = false := ordOk_false (i := i') (j := k) hc (by
                  rw [hkey, hd, keyLets, if_pos hne, decide_eq_false (fun hh => by omega)]; rfl)
                rw [hf] at h
                exact h
              · refine nd_intro ⟨by omega, by omega⟩ (nd_intro hk ?_)
                rintro c rfl
                refine sw_intro (fun h4 => ?_) (fun h4 => ?_) <;> simp only [Bool.not_eq_true', Bool.not_eq_false', decide_eq_true_eq, decide_eq_false_iff_not] at h4
                · have hf : ordOk ls L = false := ordOk_false (i := i') (j := k) hc (by
                    rw [hkey, hd, keyLets, if_pos hne, decide_eq_false (fun hh => h4 hh.2)]; rfl)
                  rw [hf] at h
                  exact h
                · rintro hin _ m hm
                  rw [inR_u64] at hin
                  rw [wu64 (by omega)] at hm
                  subst hm
                  rintro _ _ m2 hm2
                  rw [w64 (by omega)] at hm2
                  subst hm2
                  refine lpE_intro (A := M58 o L ls) (i', k) ?_ ⟨rfl, by simp only; omega, ?_⟩ (by show k < k + 1; omega)
                  · simp (maxSteps := 2000000) only [M58_I, rfH, go_sem, eq_self, and_self, Int.natCast_pos, Int.le_refl, Nat.le_refl, Int.natCast_nonneg, Int.ofNat_lt, Int.ofNat_le, Int.reduceLT, Int.reduceLE, Int.reduceEq, Int.reduceNe, Int.reduceAdd, Int.reduceSub, Int.reduceMul, Int.reduceToNat, Int.reduceNeg, Nat.reduceEqDiff, Nat.reduceLeDiff, Nat.reduceSub, Nat.reduceMul, Nat.reduceLT, Nat.reduceBEq, Nat.reduceAdd]
                    rw [hkey, hd, cntT, if_pos hne]
                    rw [sub_succ]
                  · simp only [hkey]
                    rw [hd, keyLets, if_pos hne, decide_eq_true ⟨by omega, h4⟩, h3]
                    rfl
          · obtain rfl : j = 0 := by omega
            rw [List.drop_zero] at h3
            rintro _ _ m hm
            rw [w64 (by omega)] at hm
            subst hm
            refine lpE_intro (A := L58 o L ls) (i' + 1 : Nat) ?_ ⟨by omega, ordOk_next hc hi.2 h3⟩ (by show ls.length - (i' + 1) < ls.length - i'; omega)
            simp (maxSteps := 2000000) only [L58_I, rfH, go_sem, eq_self, and_self, Int.natCast_pos, Int.le_refl, Nat.le_refl, Int.natCast_nonneg, Int.ofNat_lt, Int.ofNat_le, Int.reduceLT, Int.reduceLE, Int.reduceEq, Int.reduceNe, Int.reduceAdd, Int.reduceSub, Int.reduceMul, Int.reduceToNat, Int.reduceNeg, Nat.reduceEqDiff, Nat.reduceLeDiff, Nat.reduceSub, Nat.reduceMul, Nat.reduceLT, Nat.reduceBEq, Nat.reduceAdd]
            rfl
      · obtain rfl : i = ls.length := by omega
        rw [List.take_length] at hi
        rw [hi.2] at h
        exact h
  · exact h.elim
end Go.V
