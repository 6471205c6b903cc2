/- A part of the proof layer, or functions of the given program in it: contracts and their proofs. -/
import Derived.Test.YtbcmjkfdeikkhaaGreatA6
namespace Go.V
open Go.Proofs
set_option maxRecDepth 100000
set_option linter.unusedSimpArgs false
set_option linter.unnecessarySimpa false
set_option linter.unusedVariables false
/-! ### the order of texts; the document's serials are a map -/
theorem bytesLess_eq' : ∀ (x y : List UInt8), Op.bytesLess x y = decide (x < y)
  | [], [] => by simp [Op.bytesLess]
  | _ :: _, [] => by simp [Op.bytesLess]
  | [], _ :: _ => by simp [Op.bytesLess]
  | a :: x, b :: y => by
    rw [Op.bytesLess, bytesLess_eq' x y]
    simp only [List.cons_lt_cons_iff]
    by_cases h1 : a < b <;> by_cases h2 : a = b <;> by_cases h3 : x < y <;> simp [h1, h2, h3]
theorem ltS_eq (a b : ByteArray) : ltS a b = decide (a.data.toList < b.data.toList) := bytesLess_eq' _ _
theorem ltS_irr (a : ByteArray) : ltS a a = false := by rw [ltS_eq]; simp [List.lt_irrefl]
theorem ltS_trans {a b c : ByteArray} (h1 : ltS a b = true) (h2 : ltS b c = true) : ltS a c = true := by
  rw [ltS_eq, decide_eq_true_eq] at *
  exact List.lt_trans h1 h2
theorem ba_ext {a b : ByteArray} (h : a.data.toList = b.data.toList) : a = b := by
  cases a; cases b
  congr 1
  exact Array.ext' h
theorem ltS_tot {a b : ByteArray} (h1 : ltS a b = false) (h2 : ltS b a = false) : a = b := by
  rw [ltS_eq, decide_eq_false_iff_not] at *
  exact ba_ext (List.le_antisymm (List.not_lt.1 h2) (List.not_lt.1 h1))
theorem ltS_asy {a b : ByteArray} (h : ltS a b = true) : ltS b a = false := by
  cases h2 : ltS b a with
  | false => rfl
  | true => have := ltS_trans h h2; rw [ltS_irr] at this; cases this

def lookR : List LastT.den → ByteArray → Option Int
  | [], _ => none
  | x :: r, to => if ltS x.1 to = true then lookR r to else if x.1 = to then some x.2 else none
def setR : List LastT.den → ByteArray → Int → List LastT.den
  | [], to, s => [(to, s)]
  | x :: r, to, s => if ltS x.1 to = true then x :: setR r to s else if x.1 = to then (to, s) :: r else (to, s) :: x :: r
theorem thereL_eq : ∀ (ls : List LastT.den) (to : ByteArray), thereL ls to = lookR ls to
  | [], to => rfl
  | x :: r, to => by
    have ih := thereL_eq r to
    unfold thereL placeF at ih ⊢
    rw [List.takeWhile_cons]
    by_cases h : ltS x.1 to = true
    · rw [if_pos h, List.length_cons, List.getElem?_cons_succ, ih, lookR, if_pos h]
    · rw [if_neg h, List.length_nil, List.getElem?_cons_zero, lookR, if_neg h]
theorem setF_eq : ∀ (ls : List LastT.den) (to : ByteArray) (s : Int), setF ls to s = setR ls to s
  | [], to, s => rfl
  | x :: r, to, s => by
    have ih := setF_eq r to s
    unfold setF at ih ⊢
    rw [thereL_eq] at ih ⊢
    unfold placeF at ih ⊢
    rw [List.takeWhile_cons, lookR, setR]
    by_cases h : ltS x.1 to = true
    · simp only [if_pos h, List.length_cons, List.set_cons_succ, List.take_succ_cons, List.drop_succ_cons, List.cons_append]
      rw [← ih]
      split <;> rfl
    · simp only [if_neg h, List.length_nil, List.set_cons_zero, List.take_zero, List.drop_zero, List.nil_append]
      by_cases h2 : x.1 = to
      · simp [h2]
      · simp [h2]
theorem lookR_set (to : ByteArray) (s : Int) (to' : ByteArray) : ∀ ls, lookR (setR ls to s) to' = if to' = to then some s else lookR ls to'
  | [] => by
    simp only [setR, lookR]
    by_cases h : to' = to
    · subst h; simp [ltS_irr]
    · by_cases h2 : ltS to to' = true <;> simp [h, h2, Ne.symm h]
  | x :: r => by
    have ih := lookR_set to s to' r
    simp only [setR]
    by_cases h : ltS x.1 to = true
    · rw [if_pos h]
      simp only [lookR]
      by_cases h2 : to' = to
      · subst h2
        rw [if_pos h, ih]
        simp
      · rw [if_neg h2] at ih ⊢
        rw [ih]
    · rw [if_neg h]
      by_cases h1 : x.1 = to
      · subst h1
        simp only [if_true, lookR]
        by_cases h2 : to' = x.1
        · subst h2; simp [ltS_irr]
        · by_cases h3 : ltS x.1 to' = true <;> simp [h2, h3, Ne.symm h2]
      · simp only [if_neg h1]
        by_cases h2 : to' = to
        · subst h2; simp [lookR, ltS_irr]
        · rw [if_neg h2]
          have h3 : ltS to x.1 = true := by
            cases h4 : ltS to x.1 with
            | true => rfl
            | false => exact absurd (ltS_tot (by simpa using h) h4) h1
          rw [lookR]
          by_cases h5 : ltS to to' = true
          · rw [if_pos h5]
          · rw [if_neg h5, if_neg (Ne.symm h2)]
            have h6 : ltS to' to = true := by
              cases h7 : ltS to' to with
              | true => rfl
              | false => exact absurd (ltS_tot h7 (by simpa using h5)) h2
            have h8 := ltS_trans h6 h3
            have h9 := ltS_asy h8
            have h10 : x.1 ≠ to' := fun e => by rw [e, ltS_irr] at h8; cases h8
            simp [lookR, h9, h10]
theorem setR_length (to : ByteArray) (s : Int) : ∀ ls, (setR ls to s).length = if lookR ls to = none then ls.length + 1 else ls.length
  | [] => rfl
  | x :: r => by
    have ih := setR_length to s r
    simp only [setR, lookR]
    by_cases h : ltS x.1 to = true
    · simp only [if_pos h, List.length_cons, ih]; split <;> rfl
    · by_cases h1 : x.1 = to
      · subst h1; simp [ltS_irr]
      · simp [h, h1]

/-- The program's serials are the document's. -/
def Rel (m : List (ByteArray × Int)) (ls : List LastT.den) : Prop := m.length = ls.length ∧ ∀ to, lookM .str (.int .u64) m to = thereL ls to
theorem Rel.nil : Rel [] [] := ⟨rfl, fun to => rfl⟩
theorem Rel.set {m : List (ByteArray × Int)} {ls : List LastT.den} (h : Rel m ls) (to : ByteArray) (s : Int) : Rel (updM .str (.int .u64) m to s) (setF ls to s) := by
  obtain ⟨h1, h2⟩ := h
  refine ⟨?_, fun to' => ?_⟩
  · rw [setF_eq, setR_length]
    have := h2 to
    rw [thereL_eq] at this
    by_cases h : lookR ls to = none
    · rw [h] at this
      rw [updM_length_new (vt := .int .u64) this, if_pos h, h1]
    · rw [updM_length_old (vt := .int .u64) (by rw [this]; exact h), if_neg h, h1]
  · rw [setF_eq, thereL_eq, lookR_set]
    by_cases h : to' = to
    · subst h; rw [if_pos rfl]; exact lookM_upd_self (vt := .int .u64) _ _ _
    · rw [if_neg h, lookM_upd_ne (vt := .int .u64) _ _ h, h2, thereL_eq]
theorem Rel.len {m : List (ByteArray × Int)} {ls : List LastT.den} (h : Rel m ls) (to : ByteArray) (s : Int) : (setF ls to s).length ≤ ls.length + 1 := by
  rw [setF_eq, setR_length]; split <;> omega

end Go.V
