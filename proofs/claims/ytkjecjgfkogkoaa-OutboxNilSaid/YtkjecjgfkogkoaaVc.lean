/- Cells of structs and of values; the operations, as the layer writes them; what a quiet one comes to. -/
import Derived.Test.YtkjecjgfkogkoaaVb
namespace Go.V
set_option linter.unusedSimpArgs false
set_option linter.unnecessarySimpa false
set_option linter.unusedVariables false

/-! ### cells -/
def SV.width : SV → Nat
  | .arr n t _ => n * t.size
  | _ => 1

/-- The cells from n on. -/
def dropC : List SV → Nat → Option (List SV)
  | l, 0 => some l
  | [], _ + 1 => none
  | x :: r, n + 1 => if x.width ≤ n + 1 then dropC r (n + 1 - x.width) else none

/-- The first n cells. -/
def takeC : List SV → Nat → Option (List SV)
  | _, 0 => some []
  | [], _ + 1 => none
  | x :: r, n + 1 => if x.width ≤ n + 1 then (takeC r (n + 1 - x.width)).map (x :: ·) else none

def widthL : List SV → Nat
  | [] => 0
  | x :: r => x.width + widthL r

/-- The cells with new ones from n on. -/
def splC (l : List SV) (n : Nat) (new : List SV) : Option (List SV) :=
  match takeC l n with
  | none => none
  | some a => match dropC l (n + widthL new) with
    | none => none
    | some b => some (a ++ (new ++ b))

def headC : List SV → Option SV
  | [] => none
  | x :: _ => if x.isArr then none else some x

/-- The symbolic cells of a plain value. -/
def Ty.sv (p : Bool) : (t : Ty) → t.den → List SV
  | .int k, n => [.int k n]
  | .byte, b => [.int .u8 (b.toNat : Int)]
  | .bool, b => [.bool b]
  | .str, s => [.str s]
  | .sl eb t, xs => [.sl p eb t xs]
  | .pair a b, x => a.sv p x.1 ++ b.sv p x.2
  | .unit, _ => []

theorem denC_width {E : En} : ∀ (l : List SV) (cs : List Value), denC E l cs → cs.length = widthL l
  | [], cs, h => by simp only [denC] at h; subst h; rfl
  | x :: r, cs, h => by
    by_cases ha : x.isArr = true
    · cases x <;> simp only [SV.isArr, Bool.false_eq_true] at ha
      simp only [denC] at h
      obtain ⟨c1, c2, rfl, h2, h3, h4, h5⟩ := h
      rw [List.length_append, rdL_length (fun x c hx => rd_length _ x c hx) _ _ h4, denC_width r c2 h5, h2]
      rfl
    · have ha' : x.isArr = false := by simpa using ha
      rw [denC_cons ha'] at h
      obtain ⟨v, c2, rfl, _, h3⟩ := h
      rw [List.length_cons, denC_width r c2 h3]
      cases x <;> simp [SV.isArr] at ha' <;> simp [widthL, SV.width] <;> omega

theorem denC_split {E : En} (x : SV) (r : List SV) (cs : List Value) (h : denC E (x :: r) cs) : ∃ c1 c2, cs = c1 ++ c2 ∧ c1.length = x.width ∧ denC E [x] c1 ∧ denC E r c2 := by
  by_cases ha : x.isArr = true
  · cases x <;> simp only [SV.isArr, Bool.false_eq_true] at ha
    simp only [denC] at h
    obtain ⟨c1, c2, rfl, h2, h3, h4, h5⟩ := h
    refine ⟨c1, c2, rfl, ?_, ?_, h5⟩
    · rw [rdL_length (fun x c hx => rd_length _ x c hx) _ _ h4, h2]; rfl
    · simp only [denC]; exact ⟨c1, [], by simp, h2, h3, h4, rfl⟩
  · have ha' : x.isArr = false := by simpa using ha
    rw [denC_cons ha'] at h
    obtain ⟨v, c2, rfl, h2, h3⟩ := h
    refine ⟨[v], c2, rfl, ?_, ?_, h3⟩
    · cases x <;> simp [SV.isArr] at ha' <;> rfl
    · rw [denC_cons ha']; exact ⟨v, [], rfl, h2, by simp only [denC]⟩

theorem denC_append {E : En} : ∀ (l1 l2 : List SV) (c1 c2 : List Value), denC E l1 c1 → denC E l2 c2 → denC E (l1 ++ l2) (c1 ++ c2)
  | [], l2, c1, c2, h1, h2 => by simp only [denC] at h1; subst h1; exact h2
  | x :: r, l2, c1, c2, h1, h2 => by
    have ih := denC_append (E := E) r l2
    by_cases ha : x.isArr = true
    · cases x <;> simp only [SV.isArr, Bool.false_eq_true] at ha
      simp only [denC, List.cons_append] at h1 ⊢
      obtain ⟨d1, d2, rfl, h4, h5, h6, h7⟩ := h1
      exact ⟨d1, d2 ++ c2, by simp, h4, h5, h6, ih _ _ h7 h2⟩
    · have ha' : x.isArr = false := by simpa using ha
      rw [denC_cons ha'] at h1
      rw [List.cons_append, denC_cons ha']
      obtain ⟨v, d2, rfl, h4, h5⟩ := h1
      exact ⟨v, d2 ++ c2, rfl, h4, ih _ _ h5 h2⟩

theorem denC_drop {E : En} : ∀ (l : List SV) (n : Nat) (r : List SV) (cs : List Value), denC E l cs → dropC l n = some r → denC E r (cs.drop n) ∧ n ≤ cs.length
  | l, 0, r, cs, h, hd => by simp only [dropC] at hd; cases hd; exact ⟨by simpa using h, Nat.zero_le _⟩
  | [], n + 1, r, cs, h, hd => by simp only [dropC] at hd; cases hd
  | x :: l, n + 1, r, cs, h, hd => by
    simp only [dropC] at hd
    split at hd
    · rename_i hw
      obtain ⟨c1, c2, rfl, h1, h2, h3⟩ := denC_split x l cs h
      obtain ⟨h4, h5⟩ := denC_drop l _ r c2 h3 hd
      refine ⟨?_, by rw [List.length_append]; omega⟩
      rw [List.drop_append, List.drop_of_length_le (by omega), List.nil_append, h1]
      exact h4
    · cases hd

theorem denC_take {E : En} : ∀ (l : List SV) (n : Nat) (r : List SV) (cs : List Value), denC E l cs → takeC l n = some r → denC E r (cs.take n) ∧ n ≤ cs.length
  | l, 0, r, cs, h, hd => by simp only [takeC] at hd; cases hd; exact ⟨by simp [denC], Nat.zero_le _⟩
  | [], n + 1, r, cs, h, hd => by simp only [takeC] at hd; cases hd
  | x :: l, n + 1, r, cs, h, hd => by
    simp only [takeC] at hd
    split at hd
    · rename_i hw
      obtain ⟨c1, c2, rfl, h1, h2, h3⟩ := denC_split x l cs h
      cases ht : takeC l (n + 1 - x.width) with
      | none => rw [ht] at hd; cases hd
      | some r' =>
        rw [ht] at hd
        cases hd
        obtain ⟨h4, h5⟩ := denC_take l _ r' c2 h3 ht
        refine ⟨?_, by rw [List.length_append]; omega⟩
        rw [List.take_append, List.take_of_length_le (by omega), h1]
        have := denC_append [x] r' c1 _ h2 h4
        simpa using this
    · cases hd

theorem denC_spl {E : En} {l new r : List SV} {n : Nat} {cs nc : List Value} (h : denC E l cs) (hn : denC E new nc) (hs : splC l n new = some r) :
    denC E r (cs.take n ++ (nc ++ cs.drop (n + nc.length))) ∧ n + nc.length ≤ cs.length := by
  unfold splC at hs
  have hw := denC_width new nc hn
  cases ht : takeC l n with
  | none => rw [ht] at hs; cases hs
  | some a =>
    rw [ht] at hs
    cases hd : dropC l (n + widthL new) with
    | none => rw [hd] at hs; cases hs
    | some b =>
      rw [hd] at hs
      cases hs
      obtain ⟨h1, _⟩ := denC_take l n a cs h ht
      obtain ⟨h2, h3⟩ := denC_drop l _ b cs h hd
      rw [hw]
      exact ⟨denC_append _ _ _ _ h1 (denC_append _ _ _ _ hn h2), h3⟩

theorem denC_head {E : En} {l : List SV} {x : SV} {cs : List Value} (h : denC E l cs) (hh : headC l = some x) : ∃ v c2, cs = v :: c2 ∧ den E x v := by
  cases l with
  | nil => simp [headC] at hh
  | cons y r =>
    simp only [headC] at hh
    split at hh
    · cases hh
    · rename_i ha
      cases hh
      rw [denC_cons (by simpa using ha)] at h
      obtain ⟨v, c2, h1, h2, _⟩ := h
      exact ⟨v, c2, h1, h2⟩

theorem u8_in (b : UInt8) : IntKind.u8.min ≤ (b.toNat : Int) ∧ (b.toNat : Int) ≤ IntKind.u8.max := by
  have := UInt8.toNat_lt b
  simp only [IntKind.min, IntKind.max, IntKind.signed, IntKind.bits]
  constructor <;> simp <;> omega

theorem denC_sv {E : En} (p : Bool) : ∀ (t : Ty) (x : t.den) (cs : List Value), rd E.w (E.F p) t x cs → denC E (t.sv p x) cs
  | .int k, n, cs, h => by simp only [rd] at h; obtain ⟨rfl, h1⟩ := h; simp only [Ty.sv, denC]; exact ⟨_, _, rfl, by simp only [den]; exact ⟨trivial, h1⟩, rfl⟩
  | .byte, b, cs, h => by
    simp only [rd] at h; subst h; simp only [Ty.sv, denC]
    exact ⟨_, _, rfl, by simp only [den]; exact ⟨trivial, u8_in b⟩, rfl⟩
  | .bool, b, cs, h => by simp only [rd] at h; subst h; simp only [Ty.sv, denC]; exact ⟨_, _, rfl, by simp only [den], rfl⟩
  | .str, s, cs, h => by simp only [rd] at h; obtain ⟨rfl, h1⟩ := h; simp only [Ty.sv, denC]; exact ⟨_, _, rfl, by simp only [den]; exact ⟨trivial, h1⟩, rfl⟩
  | .sl eb t, xs, cs, h => by
    simp only [rd] at h; obtain ⟨v, rfl, h1⟩ := h
    simp only [Ty.sv, denC]
    exact ⟨_, _, rfl, by simp only [den]; exact h1, rfl⟩
  | .pair a b, x, cs, h => by
    simp only [rd] at h
    obtain ⟨c1, c2, rfl, h1, h2⟩ := h
    simp only [Ty.sv]
    exact denC_append _ _ _ _ (denC_sv p a _ _ h1) (denC_sv p b _ _ h2)
  | .unit, _, cs, h => by simp only [rd] at h; subst h; simp only [Ty.sv, denC]

end Go.V
