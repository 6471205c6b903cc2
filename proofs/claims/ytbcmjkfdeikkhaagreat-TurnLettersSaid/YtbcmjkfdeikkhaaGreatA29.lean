/- A part of the proof layer, or functions of the given program in it: contracts and their proofs. -/
import Derived.Test.YtbcmjkfdeikkhaaGreatA28
namespace Go.V
open Go.Proofs
set_option maxRecDepth 100000
set_option linter.unusedSimpArgs false
set_option linter.unnecessarySimpa false
set_option linter.unusedVariables false
theorem ltS_empty (s : ByteArray) (h : s ≠ ByteArray.empty) : ltS ByteArray.empty s = true := by
  cases h1 : ltS ByteArray.empty s with
  | true => rfl
  | false =>
    cases h2 : ltS s ByteArray.empty with
    | true =>
      rw [ltS_eq] at h2
      have : (ByteArray.empty.data.toList : List UInt8) = [] := rfl
      rw [this] at h2
      simp at h2
    | false => exact absurd (ltS_tot h2 h1) h
theorem lookR_srt {ls : List LastT.den} (h : ls.Pairwise fun x y => ltS x.1 y.1 = true) (k : ByteArray) : lookR ls k = lookM .str (.int .u64) ls k := by
  induction ls with
  | nil => rfl
  | cons x r ih =>
    rw [List.pairwise_cons] at h
    have ih := ih h.2
    rw [lookR]
    unfold lookM at ih ⊢
    rw [List.find?_cons]
    by_cases h1 : x.1 = k
    · have e : Ty.beq .str x.1 k = true := by rw [beq_str]; simpa using h1
      rw [e]
      subst h1
      rw [ltS_irr]
      simp
    · have e : Ty.beq .str x.1 k = false := by rw [beq_str]; simpa using h1
      rw [e]
      by_cases h2 : ltS x.1 k = true
      · rw [if_pos h2, ih]
      · rw [if_neg h2, if_neg h1]
        have h3 : ltS k x.1 = true := by
          cases h4 : ltS k x.1 with
          | true => rfl
          | false => exact absurd (ltS_tot (by simpa using h2) h4) h1
        have hn : r.find? (fun e => Ty.beq .str e.1 k) = none := List.find?_eq_none.2 (fun y hy => by
          rw [beq_str]
          simp only [decide_eq_true_eq]
          intro e
          have := h.1 y hy
          rw [e, ltS_asy h3] at this
          cases this)
        rw [hn]
        rfl
theorem look_key {ls : List LastT.den} {n : Nat} (h : KeysOk ls n) {x : LastT.den} (hx : x ∈ ls) : lookM .str (.int .u64) ls x.1 = some x.2 := by
  rw [← lookR_srt h.srt]
  have hs := h.srt
  clear h
  induction ls with
  | nil => simp at hx
  | cons y r ih =>
    rw [List.pairwise_cons] at hs
    rcases List.mem_cons.1 hx with rfl | hx
    · rw [lookR, ltS_irr]; simp
    · rw [lookR, if_pos (hs.1 x hx)]
      exact ih hx hs.2
theorem look_mem {ls : List LastT.den} {k : ByteArray} {s : Int} (h : lookM .str (.int .u64) ls k = some s) : (k, s) ∈ ls := by
  unfold lookM at h
  cases hf : ls.find? (fun e => Ty.beq .str e.1 k) with
  | none => rw [hf] at h; cases h
  | some y =>
    rw [hf] at h
    have h1 := List.find?_some hf
    have h2 := List.mem_of_find?_eq_some hf
    simp only [beq_str, decide_eq_true_eq] at h1
    cases h
    subst h1
    exact h2
theorem sub1 (S : Int) (c : Nat) : S - ((c + 1 : Nat) : Int) + 1 = S - (c : Nat) := by omega
theorem serOk_all {ls : List LastT.den} : ∀ {l : List OutT.den}, serOk ls l = true ↔ ∀ (a : List OutT.den) (x : OutT.den) (r : List OutT.den), l = a ++ x :: r → (cntT x.1 r : Int) < (lookM .str (.int .u64) ls x.1).getD (0 : Int) ∧ x.2.2.1 = (lookM .str (.int .u64) ls x.1).getD (0 : Int) - (cntT x.1 r : Nat)
  | [] => by simp [serOk]
  | y :: l => by
    have e0 : cntT y.1 (y :: l) = cntT y.1 l + 1 := by rw [cntT, if_pos rfl]
    rw [serOk, Bool.and_eq_true, Bool.and_eq_true, serOk_all (l := l), decide_eq_true_eq, decide_eq_true_eq, e0]
    constructor
    · rintro ⟨⟨h1, h3⟩, h2⟩ a x r e
      cases a with
      | nil =>
        rw [List.nil_append] at e
        injection e with e1 e2
        subst e1 e2
        exact ⟨by omega, h3.trans (sub1 _ _)⟩
      | cons b a =>
        rw [List.cons_append] at e
        injection e with e1 e2
        exact h2 a x r e2
    · intro h
      have h1 := h [] y l rfl
      exact ⟨⟨by omega, h1.2.trans (sub1 _ _).symm⟩, fun a x r e => h (y :: a) x r (by rw [e]; rfl)⟩
end Go.V
