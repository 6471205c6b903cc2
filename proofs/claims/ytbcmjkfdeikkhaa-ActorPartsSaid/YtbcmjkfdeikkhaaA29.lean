/- A part of the proof layer, or functions of the given program in it: contracts and their proofs. -/
import Derived.Test.YtbcmjkfdeikkhaaA28
namespace Go.V
open Go.Proofs
set_option maxRecDepth 100000
set_option linter.unusedSimpArgs false
set_option linter.unnecessarySimpa false
set_option linter.unusedVariables false

theorem ltS_empty (s : ByteArray) (h : s ≠ ByteArray.empty) : ltS ByteArray.empty s = true := by
  cases h1 : ltS ByteArray.empty s with
  | true => rfl
  | false =>
    cases h2 : ltS s ByteArray.empty with
    | true =>
      rw [ltS_eq] at h2
      have : (ByteArray.empty.data.toList : List UInt8) = [] := rfl
      rw [this] at h2
      simp at h2
    | false => exact absurd (ltS_tot h2 h1) h
theorem lastK_elt {ls : List LastT.den} {i : Nat} (h : ls.length = i + 1) : (elt LastT ls i).1 = lastK ls := by
  have h8 := elt_get (t := LastT) (xs := ls) (m := i) (by omega)
  unfold lastK
  rw [List.getLast?_eq_getElem?, h, Nat.add_sub_cancel, h8]
theorem lookR_srt {ls : List LastT.den} (h : ls.Pairwise fun x y => ltS x.1 y.1 = true) (k : ByteArray) : lookR ls k = lookM .str (.int .u64) ls k := by
  induction ls with
  | nil => rfl
  | cons x r ih =>
    rw [List.pairwise_cons] at h
    have ih := ih h.2
    rw [lookR]
    unfold lookM at ih ⊢
    rw [List.find?_cons]
    by_cases h1 : x.1 = k
    · have e : Ty.beq .str x.1 k = true := by rw [beq_str]; simpa using h1
      rw [e]
      subst h1
      rw [ltS_irr]
      simp
    · have e : Ty.beq .str x.1 k = false := by rw [beq_str]; simpa using h1
      rw [e]
      by_cases h2 : ltS x.1 k = true
      · rw [if_pos h2, ih]
      · rw [if_neg h2, if_neg h1]
        have h3 : ltS k x.1 = true := by
          cases h4 : ltS k x.1 with
          | true => rfl
          | false => exact absurd (ltS_tot (by simpa using h2) h4) h1
        have hn : r.find? (fun e => Ty.beq .str e.1 k) = none := List.find?_eq_none.2 (fun y hy => by
          rw [beq_str]
          simp only [decide_eq_true_eq]
          intro e
          have := h.1 y hy
          rw [e, ltS_asy h3] at this
          cases this)
        rw [hn]
        rfl
theorem look_key {ls : List LastT.den} {n : Nat} (h : KeysOk ls n) {x : LastT.den} (hx : x ∈ ls) : lookM .str (.int .u64) ls x.1 = some x.2 := by
  rw [← lookR_srt h.srt]
  have hs := h.srt
  clear h
  induction ls with
  | nil => simp at hx
  | cons y r ih =>
    rw [List.pairwise_cons] at hs
    rcases List.mem_cons.1 hx with rfl | hx
    · rw [lookR, ltS_irr]; simp
    · rw [lookR, if_pos (hs.1 x hx)]
      exact ih hx hs.2
theorem look_mem {ls : List LastT.den} {k : ByteArray} {s : Int} (h : lookM .str (.int .u64) ls k = some s) : (k, s) ∈ ls := by
  unfold lookM at h
  cases hf : ls.find? (fun e => Ty.beq .str e.1 k) with
  | none => rw [hf] at h; cases h
  | some y =>
    rw [hf] at h
    have h1 := List.find?_some hf
    have h2 := List.mem_of_find?_eq_some hf
    simp only [beq_str, decide_eq_true_eq] at h1
    cases h
    subst h1
    exact h2
theorem there_look {ls : List LastT.den} {n : Nat} (h : KeysOk ls n) (to : ByteArray) : (thereL ls to).isSome = !decide ((lookM .str (.int .u64) ls to).getD (0 : Int) = 0) := by
  rw [thereL_eq, lookR_srt h.srt]
  cases hl : lookM .str (.int .u64) ls to with
  | none => rfl
  | some s =>
    have hm := (h.key _ (look_mem hl)).2.1
    simp only [Option.isSome_some, Option.getD_some]
    rw [decide_eq_false hm]
    rfl
theorem outsN_ok {o : ByteArray} {ls : List LastT.den} {st : Option (List UInt8)} : ∀ {n : Nat} {p : List OutT.den × Option (List UInt8)}, outsN o ls st n = some p → ∀ x ∈ p.1, (lookM .str (.int .u64) ls x.1).getD (0 : Int) ≠ 0 ∧ okLet x.2 ∧ x.2.1 = o
  | 0, p, h => by simp only [outsN, Option.some.injEq] at h; subst h; intro x hx; simp at hx
  | n + 1, p, h => by
    rw [outsN] at h
    cases hq : outsN o ls st n with
    | none => rw [hq] at h; cases h
    | some q =>
      rw [hq] at h
      have ih := outsN_ok hq
      have h' : outStep o ls q = some p := h
      unfold outStep at h'
      simp only at h'
      cases hd : decL (rdText (rdText q.2).2).1.data.toList with
      | none => rw [hd] at h'; cases h'
      | some l =>
        rw [hd] at h'
        simp only at h'
        split at h'
        · cases h'
        · rename_i hc
          simp only [Option.some.injEq] at h'
          subst h'
          intro x hx
          rcases List.mem_append.1 hx with hx | hx
          · exact ih x hx
          · simp at hx
            subst hx
            refine ⟨fun h9 => hc (.inr (.inr h9)), (decL_back hd).2, ?_⟩
            by_cases h9 : l.1 = o
            · exact h9
            · exact absurd (.inr (.inl h9)) hc
theorem keyLets_all {key : ByteArray} {s : Int} : ∀ {l : List OutT.den}, keyLets key s l = true ↔ ∀ (a : List OutT.den) (x : OutT.den) (r : List OutT.den), l = a ++ x :: r → x.1 = key → (cntT key r : Int) < s ∧ x.2.2.1 = s - (cntT key r : Nat)
  | [] => by simp [keyLets]
  | y :: l => by
    rw [keyLets, Bool.and_eq_true, keyLets_all (l := l)]
    constructor
    · rintro ⟨h1, h2⟩ a x r e hx
      cases a with
      | nil =>
        rw [List.nil_append] at e
        injection e with e1 e2
        subst e1 e2
        rw [if_pos hx, decide_eq_true_eq] at h1
        exact h1
      | cons b a =>
        rw [List.cons_append] at e
        injection e with e1 e2
        exact h2 a x r e2 hx
    · intro h
      refine ⟨?_, fun a x r e hx => h (y :: a) x r (by rw [e]; rfl) hx⟩
      by_cases hy : y.1 = key
      · rw [if_pos hy, decide_eq_true_eq]
        exact h [] y l rfl hy
      · rw [if_neg hy]
theorem sub1 (S : Int) (c : Nat) : S - ((c + 1 : Nat) : Int) + 1 = S - (c : Nat) := by omega
theorem serOk_all {ls : List LastT.den} : ∀ {l : List OutT.den}, serOk ls l = true ↔ ∀ (a : List OutT.den) (x : OutT.den) (r : List OutT.den), l = a ++ x :: r → (cntT x.1 r : Int) < (lookM .str (.int .u64) ls x.1).getD (0 : Int) ∧ x.2.2.1 = (lookM .str (.int .u64) ls x.1).getD (0 : Int) - (cntT x.1 r : Nat)
  | [] => by simp [serOk]
  | y :: l => by
    have e0 : cntT y.1 (y :: l) = cntT y.1 l + 1 := by rw [cntT, if_pos rfl]
    rw [serOk, Bool.and_eq_true, Bool.and_eq_true, serOk_all (l := l), decide_eq_true_eq, decide_eq_true_eq, e0]
    constructor
    · rintro ⟨⟨h1, h3⟩, h2⟩ a x r e
      cases a with
      | nil =>
        rw [List.nil_append] at e
        injection e with e1 e2
        subst e1 e2
        exact ⟨by omega, h3.trans (sub1 _ _)⟩
      | cons b a =>
        rw [List.cons_append] at e
        injection e with e1 e2
        exact h2 a x r e2
    · intro h
      have h1 := h [] y l rfl
      exact ⟨⟨by omega, h1.2.trans (sub1 _ _).symm⟩, fun a x r e => h (y :: a) x r (by rw [e]; rfl)⟩
theorem ord_ser {ls : List LastT.den} {n : Nat} (hk : KeysOk ls n) (l : List OutT.den) (hl : ∀ x ∈ l, (lookM .str (.int .u64) ls x.1).getD (0 : Int) ≠ 0) : ordOk ls l = serOk ls l := by
  rw [Bool.eq_iff_iff, serOk_all]
  unfold ordOk
  rw [List.all_eq_true]
  constructor
  · intro h a x r e
    have hx := hl x (by rw [e]; simp)
    cases hs : lookM .str (.int .u64) ls x.1 with
    | none => rw [hs] at hx; exact absurd rfl hx
    | some s =>
      have := keyLets_all.1 (h _ (look_mem hs)) a x r e rfl
      exact this
  · intro h y hy
    rw [keyLets_all]
    intro a x r e hx
    have h1 := h a x r e
    rw [hx, look_key hk hy] at h1
    exact h1

theorem dec_bad {bs : List UInt8} (h : (rdNum (rdText (some bs)).2).2 = none) : decOut bs = none := by
  unfold decOut
  simp only
  split
  · rfl
  · have h0 := rdNum_none (Prod.ext rfl h)
    have e : rdNum (rdText (some bs)).2 = (0, none) := Prod.ext h0 h
    rw [e]
    rfl
end Go.V
