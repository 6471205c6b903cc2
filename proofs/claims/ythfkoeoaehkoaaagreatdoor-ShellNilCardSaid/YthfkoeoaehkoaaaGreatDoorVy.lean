/- Small laws for the proofs over the layer. -/
import Derived.Test.YthfkoeoaehkoaaaGreatDoorVw
namespace Go.V
set_option linter.unusedSimpArgs false
set_option linter.unnecessarySimpa false
set_option linter.unusedVariables false
attribute [go_sem] Nat.le_refl eq_self and_self Int.ofNat_lt Int.natCast_nonneg Int.le_refl Int.natCast_pos Int.ofNat_le List.length_nil List.length_cons Nat.zero_add cond_true cond_false beq_true beq_false Bool.not_not Bool.not_true Bool.not_false List.append_nil List.nil_append List.cons_append List.getElem?_cons_zero List.getElem?_cons_succ List.getElem?_nil List.drop_zero List.drop_succ_cons List.drop_nil List.contains_cons List.contains_nil Bool.or_false Bool.false_or Bool.or_true Bool.true_or List.all_nil List.all_cons true_and and_true beq_self_eq_true List.set_cons_zero List.set_cons_succ decide_true decide_false forall_const implies_true Int.toNat_natCast
theorem GOk.nil {P : Program} : GOk P [] := fun f C h => by simp [lkC] at h
theorem GOk.cons {P : Program} {Γ : List (Nat × Contract)} {f : Nat} {C : Contract} (h1 : Sound P f C) (h2 : Callable P f) (h : GOk P Γ) : GOk P ((f, C) :: Γ) := by
 intro g D hg
 simp only [lkC] at hg
 cases hf : f == g <;> rw [hf] at hg
 ·exact h g D hg
 ·cases hg; have := beq_iff_eq.1 hf; subst this; exact ⟨h1, h2⟩
theorem wrap_in {k : IntKind} {n : Int} (h : inR k n) : k.wrap n = n := by
 obtain ⟨h1, h2⟩ := h
 cases k <;> simp [IntKind.wrap, IntKind.min, IntKind.max, IntKind.signed, IntKind.bits] at h1 h2 ⊢ <;> (try split) <;> omega
theorem inR_i64 {n : Int} : inR .i64 n ↔ -9223372036854775808 ≤ n ∧ n ≤ 9223372036854775807 := by simp [inR, IntKind.min, IntKind.max, IntKind.signed, IntKind.bits]
theorem inR_u64 {n : Int} : inR .u64 n ↔ 0 ≤ n ∧ n ≤ 18446744073709551615 := by simp [inR, IntKind.min, IntKind.max, IntKind.signed, IntKind.bits]
theorem inR_u8 {n : Int} : inR .u8 n ↔ 0 ≤ n ∧ n ≤ 255 := by simp [inR, IntKind.min, IntKind.max, IntKind.signed, IntKind.bits]
theorem w64 {n : Int} (h : -9223372036854775808 ≤ n ∧ n ≤ 9223372036854775807) : IntKind.i64.wrap n = n := wrap_in (inR_i64.2 h)
theorem wu64 {n : Int} (h : 0 ≤ n ∧ n ≤ 18446744073709551615) : IntKind.u64.wrap n = n := wrap_in (inR_u64.2 h)
theorem wu8 {n : Int} (h : 0 ≤ n ∧ n ≤ 255) : IntKind.u8.wrap n = n := wrap_in (inR_u8.2 h)
theorem maxLen_val : maxLen = 9223372036854775807 := rfl
def onL (t : Ty) (eb : Nat) (x : SV) (k : List t.den → Prop) : Prop := (x = .nils ∧ k []) ∨ ∃ p xs, x = .sl p eb t xs ∧ k xs
@[go_sem] theorem onL_nils {t eb k} : onL t eb .nils k = k [] := by
 apply propext; constructor
 ·rintro (⟨_, h⟩ | ⟨_, _, h, _⟩)
  ·exact h
  ·cases h
 ·exact fun h => .inl ⟨rfl, h⟩
@[go_sem] theorem onL_sl {t eb p xs k} : onL t eb (.sl p eb t xs) k = k xs := by
 apply propext; constructor
 ·rintro (⟨h, _⟩ | ⟨_, _, h, hk⟩)
  ·cases h
  ·cases h; exact hk
 ·exact fun h => .inr ⟨p, xs, rfl, h⟩
/-! ### maps -/
theorem beq_str (a b : ByteArray) : Ty.beq .str a b = decide (a = b) := rfl
section
variable {vt : Ty}
theorem lookM_upd_self (m : List (ByteArray × vt.den)) (k : ByteArray) (v : vt.den) : lookM .str vt (updM .str vt m k v) k = some v := by
 induction m with
 | nil => simp [updM, lookM, beq_str]
 | cons e r ih =>
  obtain ⟨k', v'⟩ := e
  simp only [updM, beq_str]
  by_cases h : k' = k
  ·subst h; simp [lookM, beq_str]
  ·simp only [h, decide_false, cond_false]
   simp only [lookM, List.find?_cons, beq_str, h, decide_false]
   simpa [lookM, beq_str] using ih
theorem lookM_upd_ne (m : List (ByteArray × vt.den)) {k k' : ByteArray} (v : vt.den) (hk : k' ≠ k) : lookM .str vt (updM .str vt m k v) k' = lookM .str vt m k' := by
 induction m with
 | nil => simp [updM, lookM, beq_str, hk, Ne.symm hk]
 | cons e r ih =>
  obtain ⟨k0, v0⟩ := e
  simp only [updM, beq_str]
  by_cases h : k0 = k
  ·subst h
   simp [lookM, beq_str, Ne.symm hk]
  ·simp only [h, decide_false, cond_false]
   unfold lookM at ih ⊢
   by_cases h2 : k0 = k'
   ·subst h2; simp [beq_str]
   ·simp only [List.find?_cons, beq_str, h2, decide_false]
    simpa [beq_str] using ih
theorem updM_new {m : List (ByteArray × vt.den)} {k : ByteArray} {v : vt.den} (h : lookM .str vt m k = none) : updM .str vt m k v = m ++ [(k, v)] := by
 induction m with
 | nil => rfl
 | cons e r ih =>
  obtain ⟨k', v'⟩ := e
  by_cases hk : k' = k
  ·simp [lookM, beq_str, hk] at h
  ·have h' : lookM .str vt r k = none := by
    simp only [lookM, List.find?_cons, beq_str, hk, decide_false] at h
    simpa [lookM, beq_str] using h
   simp only [updM, beq_str, hk, decide_false, cond_false, ih h', List.cons_append]
theorem updM_length_old {m : List (ByteArray × vt.den)} {k : ByteArray} {v : vt.den} (h : lookM .str vt m k ≠ none) : (updM .str vt m k v).length = m.length := by
 induction m with
 | nil => simp [lookM] at h
 | cons e r ih =>
  obtain ⟨k', v'⟩ := e
  by_cases hk : k' = k
  ·simp [updM, beq_str, hk]
  ·have h' : lookM .str vt r k ≠ none := by
    simp only [lookM, List.find?_cons, beq_str, hk, decide_false] at h
    simpa [lookM, beq_str] using h
   simp only [updM, beq_str, hk, decide_false, cond_false, List.length_cons, ih h']
theorem updM_length_new {m : List (ByteArray × vt.den)} {k : ByteArray} {v : vt.den} (h : lookM .str vt m k = none) : (updM .str vt m k v).length = m.length + 1 := by
 rw [updM_new h]; simp
end
theorem getElem?_toNat {α : Type} {l : List α} {i m : Nat} {x : α} (hm : m = i) (h : l[m]? = some x) : l[i]? = some x := hm ▸ h
theorem take_snoc {α : Type} {l : List α} {i : Nat} {x : α} (h : l[i]? = some x) : l.take i ++ [x] = l.take (i + 1) := by
 rw [List.take_add_one, h]; rfl
theorem take_elt {t : Ty} {l : List t.den} {i : Nat} (h : i < l.length) : l.take i ++ [elt t l i] = l.take (i + 1) := take_snoc (elt_get h)
theorem take_eltO {l : List (Ty.pair .str (.pair .str (.pair (.int .u64) (.pair (.int .i64) (.sl 8 (.int .i64)))))).den} {i : Nat} (h : i < l.length) :
  l.take i ++ [((elt _ l i).1, (elt _ l i).2.1, (elt _ l i).2.2.1, (elt _ l i).2.2.2.1, (elt _ l i).2.2.2.2)] = l.take (i + 1) := take_elt h
def cntA (I : Nat → SS) (n : Nat) : LoopAnn := { G := Nat, I := I, R := fun _ i => i ≤ n, μ := fun i => n - i }
theorem cntA_I (I : Nat → SS) (n i : Nat) : (cntA I n).I i = I i := rfl
theorem cntA_next {I : Nat → SS} {n n0 : Nat} {keep : List Nat} {g0 i : Nat} {s : SS} (hi : i < n) (h : canon n0 keep s = I (i + 1)) : lpE (cntA I n) n0 keep g0 i s :=
 lpE_intro (A := cntA I n) (i + 1 : Nat) h hi (by show n - (i + 1) < n - i; omega)
end Go.V
