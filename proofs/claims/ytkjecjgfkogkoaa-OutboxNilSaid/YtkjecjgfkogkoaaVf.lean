/- Constants; the check that the layer's text of an operation is the operation. -/
import Derived.Test.YtkjecjgfkogkoaaVe
namespace Go.V
set_option linter.unusedSimpArgs false
set_option linter.unnecessarySimpa false
set_option linter.unusedVariables false

def cst1 : SV → Value → Bool
  | .int k n, .int k' m => decide (k = k') && decide (n = m) && decide (k.min ≤ n) && decide (n ≤ k.max)
  | .bool b, .bool c => b == c
  | .str s, .string t => decide (s.data.toList = t.data.toList) && decide (s.size ≤ maxLen)
  | .nilp, .pointer none => true
  | .nils, .slice none 0 0 => true
  | .nilm, .map none => true
  | .nilf, .nilFunc => true
  | .nili, .nilIface => true
  | _, _ => false

theorem bytes_ext {s t : ByteArray} (h : s.data.toList = t.data.toList) : s = t := by
  cases s; cases t
  simp only at h
  congr
  exact Array.toList_inj.1 h

theorem cst1_sound {E : En} {x : SV} {v : Value} (h : cst1 x v = true) : den E x v := by
  unfold cst1 at h
  split at h <;> first
    | (simp only [den]; done)
    | (simp only [Bool.and_eq_true, decide_eq_true_eq] at h; obtain ⟨⟨⟨rfl, rfl⟩, h1⟩, h2⟩ := h; simp only [den]; exact ⟨trivial, h1, h2⟩)
    | (simp only [beq_iff_eq] at h; subst h; simp only [den]; done)
    | (simp only [Bool.and_eq_true, decide_eq_true_eq] at h; obtain ⟨h1, h2⟩ := h; simp only [den]; exact ⟨by rw [bytes_ext h1], h2⟩)
    | cases h

theorem cst1_noArr {x : SV} {v : Value} (h : cst1 x v = true) : x.isArr = false := by
  unfold cst1 at h
  split at h <;> first | rfl | cases h

def cst0 : (t : Ty) → t.den → Value → Bool
  | .int k, n, v => match v with
    | .int k' m => decide (k = k') && decide ((n : Int) = m) && decide (k.min ≤ m) && decide (m ≤ k.max)
    | _ => false
  | .byte, b, v => match v with
    | .int .u8 m => decide ((UInt8.toNat b : Int) = m)
    | _ => false
  | .bool, b, v => match v with
    | .bool c => (b : Bool) == c
    | _ => false
  | .str, s, v => match v with
    | .string c => decide (ByteArray.data s = c.data) && decide (c.size ≤ maxLen)
    | _ => false
  | .sl _ _, xs, v => match v with
    | .slice none 0 0 => List.isEmpty xs
    | _ => false
  | _, _, _ => false

theorem cst0_sound {w : World} {F : Nat → Prop} (t : Ty) (x : t.den) (v : Value) (h : cst0 t x v = true) : rd w F t x [v] := by
  cases t <;> simp only [cst0] at h
  · split at h <;> try cases h
    simp only [Bool.and_eq_true, decide_eq_true_eq] at h
    obtain ⟨⟨⟨rfl, rfl⟩, h1⟩, h2⟩ := h
    simp only [rd]; exact ⟨trivial, h1, h2⟩
  · split at h <;> try cases h
    simp only [decide_eq_true_eq] at h
    simp only [rd]; rw [h]
  · split at h <;> try cases h
    simp only [beq_iff_eq] at h
    simp only [rd]; rw [h]
  · split at h <;> try cases h
    simp only [Bool.and_eq_true, decide_eq_true_eq] at h
    obtain ⟨h1, h2⟩ := h
    rename_i c
    have e : x = c := bytes_ext (by rw [h1])
    simp only [rd]
    subst e
    exact ⟨rfl, h2⟩
  · split at h <;> try cases h
    rename_i eb t
    have e : x = [] := by cases x <;> simp_all
    subst e
    simp only [rd]; exact ⟨_, rfl, .inl ⟨rfl, none, 0, rfl, by simp [maxLen], fun _ => rfl⟩⟩
  · cases h
  · cases h

/-- The cells behind a plain constant. -/
def cstRd : (t : Ty) → t.den → List Value → Option (List Value)
  | .pair a b, x, cs => match cstRd a x.1 cs with
    | some r => cstRd b x.2 r
    | none => none
  | .unit, _, r => some r
  | t, x, cs => match cs with
    | [] => none
    | v :: r => if cst0 t x v then some r else none

theorem cstRd_sound {w : World} {F : Nat → Prop} : ∀ (t : Ty) (x : t.den) (cs r : List Value), cstRd t x cs = some r → ∃ c, cs = c ++ r ∧ rd w F t x c := by
  have one : ∀ (t : Ty) (x : t.den) (cs r : List Value), (match cs with | [] => none | v :: r => if cst0 t x v then some r else none) = some r → ∃ c, cs = c ++ r ∧ rd w F t x c := by
    intro t x cs r h
    cases cs with
    | nil => cases h
    | cons v cs =>
      simp only at h
      split at h
      · rename_i hc
        cases h
        exact ⟨[v], rfl, cst0_sound t x v hc⟩
      · cases h
  intro t
  induction t with
  | pair a b iha ihb =>
    intro x cs r h
    simp only [cstRd] at h
    cases h1 : cstRd a x.1 cs with
    | none => rw [h1] at h; cases h
    | some r1 =>
      rw [h1] at h
      obtain ⟨c1, rfl, h2⟩ := iha _ _ _ h1
      obtain ⟨c2, rfl, h3⟩ := ihb _ _ _ h
      exact ⟨c1 ++ c2, by simp, by simp only [rd]; exact ⟨c1, c2, rfl, h2, h3⟩⟩
  | unit =>
    intro x cs r h
    simp only [cstRd] at h
    cases h
    exact ⟨[], rfl, by simp only [rd]⟩
  | _ => intro x cs r h; exact one _ x cs r (by simpa only [cstRd] using h)

/-- The elements of a constant array, and what is behind. -/
def cstRdL (t : Ty) : List t.den → List Value → Option (List Value)
  | [], cs => some cs
  | x :: xs, cs => match cstRd t x cs with
    | some r => cstRdL t xs r
    | none => none

theorem cstRdL_sound {w : World} {F : Nat → Prop} (t : Ty) : ∀ (xs : List t.den) (cs r : List Value), cstRdL t xs cs = some r → ∃ c, cs = c ++ r ∧ rdL (rd w F t) xs c
  | [], cs, r, h => by simp only [cstRdL] at h; cases h; exact ⟨[], rfl, rfl⟩
  | x :: xs, cs, r, h => by
    simp only [cstRdL] at h
    cases h1 : cstRd t x cs with
    | none => rw [h1] at h; cases h
    | some r1 =>
      rw [h1] at h
      obtain ⟨c1, rfl, h2⟩ := cstRd_sound t _ _ _ h1
      obtain ⟨c2, rfl, h3⟩ := cstRdL_sound t xs _ _ h
      exact ⟨c1 ++ c2, by simp, c1, c2, rfl, h2, h3⟩

def cstC : List SV → List Value → Bool
  | [], cs => cs.isEmpty
  | x :: r, cs => match x with
    | .arr n t xs => (xs.length == n) && t.flat && (match cstRdL t xs cs with
      | some cs' => cstC r cs'
      | none => false)
    | x => match cs with
      | [] => false
      | v :: cs => cst1 x v && cstC r cs

theorem cstC_sound {E : En} : ∀ (l : List SV) (cs : List Value), cstC l cs = true → denC E l cs
  | [], cs, h => by simp only [cstC, List.isEmpty_iff] at h; simp only [denC]; exact h
  | x :: r, cs, h => by
    have ih := cstC_sound (E := E) r
    by_cases ha : x.isArr = true
    · cases x <;> simp only [SV.isArr, Bool.false_eq_true] at ha
      rename_i n t xs
      simp only [cstC, Bool.and_eq_true, beq_iff_eq] at h
      obtain ⟨⟨h1, h2⟩, h3⟩ := h
      cases h4 : cstRdL t xs cs with
      | none => rw [h4] at h3; cases h3
      | some cs' =>
        rw [h4] at h3
        obtain ⟨c, rfl, h5⟩ := cstRdL_sound (w := E.w) (F := E.Fz) t _ _ _ h4
        simp only [denC]
        exact ⟨c, cs', rfl, h1, h2, h5, ih _ h3⟩
    · have ha' : x.isArr = false := by simpa using ha
      rw [denC_cons ha']
      cases cs with
      | nil => cases x <;> simp only [SV.isArr, Bool.true_eq_false] at ha' <;> simp [cstC] at h
      | cons v cs =>
        have h' : (cst1 x v && cstC r cs) = true := by
          cases x <;> simp only [SV.isArr, Bool.true_eq_false] at ha' <;> simpa only [cstC] using h
        simp only [Bool.and_eq_true] at h'
        exact ⟨v, cs, rfl, cst1_sound h'.1, ih _ h'.2⟩

def cst : SV → Value → Bool
  | .agg l, .agg cs => cstC l cs.toList
  | x, v => cst1 x v

theorem cst_sound {E : En} {x : SV} {v : Value} (h : cst x v = true) : den E x v := by
  unfold cst at h
  split at h
  · simp only [den]; exact ⟨_, rfl, cstC_sound _ _ h⟩
  · exact cst1_sound h

def okOpd : Operand → Opd → Bool
  | .tmp a, .t b => a == b
  | .const v, .c x => cst x v
  | .func a, .f b => a == b
  | _, _ => false

theorem get_sound {E : En} {s : SS} {a : Act} {o : Operand} {x : Opd} (hok : okOpd o x = true) (h : Fr E s.fr a) : den E (s.get x) (a.eval o) := by
  unfold okOpd at hok
  split at hok
  · have := beq_iff_eq.1 hok
    subst this
    exact h _
  · exact cst_sound hok
  · have := beq_iff_eq.1 hok
    subst this
    simp only [SS.get, den, Act.eval]
    exact ⟨#[], rfl, by simp [denL]⟩
  · cases hok

end Go.V
