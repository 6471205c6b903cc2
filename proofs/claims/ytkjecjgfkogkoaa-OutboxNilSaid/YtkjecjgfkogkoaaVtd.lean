/- Rows frozen at once; a row laid into another one's place. -/
import Derived.Test.YtkjecjgfkogkoaaVtc
namespace Go.V
set_option linter.unusedSimpArgs false
set_option linter.unnecessarySimpa false
set_option linter.unusedVariables false

def rowsOf (hp : List SB) (x : SV) : List Nat :=
  match x with
  | .ptr i _ => match hp[i]? with
    | some (.struct cells) => SV.rowsL cells
    | _ => []
  | x => x.rows

/-- The rows that a slot's value names, or its struct's cells: frozen. -/
def frzS (s : SS) (x : SV) : SS := (frzAll s [] (rowsOf s.hp x)).1

def swpF (i j : Nat) : Nat → Option Nat := fun a => bif a == j then some i else (bif a == i then none else some a)

def cellV (b : Option SB) (off : Nat) (n : Option Nat) : Option SV :=
  match b with
  | some (.struct cells) => match n with
    | none => headO (dropC cells off)
    | some m => takeO (dropC cells off) m
  | _ => none

def swp2 (s : SS) (i j : Nat) (b : Option SB) : SS :=
  match b with
  | some (.row _ eb t xs) => ⟨frRen (swpF i j) s.fr, ((s.hp.map (SB.ren (swpF i j))).set j .gone).set i (.row true eb t xs)⟩
  | _ => s

def isRow (b : Option SB) : Bool :=
  match b with
  | some (.row _ _ _ _) => true
  | _ => false

def swp3 (s : SS) (i : Nat) (b : Option SB) : SS :=
  match b with
  | some (.row _ eb t xs) => setS s i (.row true eb t xs)
  | _ => s

/-- The row that a struct's cell names lies in the place of row i from now on. -/
def swpS (s : SS) (i : Nat) (x : Option SV) : SS :=
  match x with
  | some (.own j) => match j == i || !isRow (s.hp[i]?) with
    | true => swp3 s i (s.hp[i]?)
    | false => swp2 s i j (s.hp[j]?)
  | _ => s

section
variable {S : Start} {s : SS} {E : En} {a : Act}

theorem frzS_sat (hs : Sat S s E a) (x : SV) : ∃ E', E'.w = E.w ∧ Sat S (frzS s x) E' a := by
  obtain ⟨E', h1, h2, _⟩ := frzAll_sound (rowsOf s.hp x) s [] E [] hs (by simp only [denC])
  exact ⟨E', h1, h2⟩

theorem swp2_sat (hs : Sat S s E a) {i j : Nat} {mv : Bool} {eb : Nat} {t : Ty} {xs : List t.den} (hij : j ≠ i) (hi : isRow (s.hp[i]?) = true) (hj : s.hp[j]? = some (.row mv eb t xs)) : ∃ E', E'.w = E.w ∧ Sat S (swp2 s i j (s.hp[j]?)) E' a := by
  have hilt : i < s.hp.length := by
    rcases Nat.lt_or_ge i s.hp.length with h | h
    · exact h
    · rw [List.getElem?_eq_none h] at hi; cases hi
  have hjlt : j < s.hp.length := (List.getElem?_eq_some_iff.1 hj).1
  rw [hj]
  simp only [swp2]
  have hren : Ren E { E with ρ := upR E.ρ i (E.ρ j) } (swpF i j) := by
    refine ⟨fun p q hp hpq => ?_, fun _ h => h, fun _ h => .inl h, fun _ _ => rfl⟩
    unfold swpF at hpq
    by_cases h1 : p = j
    · subst h1
      simp only [beq_self_eq_true, cond_true, Option.some.injEq] at hpq
      subst hpq
      exact ⟨by rw [hs.hs.n]; exact hilt, upd_same _ _ _⟩
    · by_cases h2 : p = i
      · subst h2
        have e : (p == j) = false := beq_eq_false_iff_ne.2 h1
        simp [e] at hpq
      · have e1 : (p == j) = false := beq_eq_false_iff_ne.2 h1
        have e2 : (p == i) = false := beq_eq_false_iff_ne.2 h2
        have : q = p := by
          rw [e1, e2] at hpq
          simp only [cond_false, Option.some.injEq] at hpq
          exact hpq.symm
        subst this
        exact ⟨hp, upd_other _ _ h2⟩
  have hget : ∀ (k : Nat) sk, (((s.hp.map (SB.ren (swpF i j))).set j .gone).set i (.row true eb t xs))[k]? = some sk → (k = i ∧ sk = .row true eb t xs) ∨ (k = j ∧ sk = .gone) ∨ (k ≠ i ∧ k ≠ j ∧ ∃ s0, s.hp[k]? = some s0 ∧ sk = s0.ren (swpF i j)) := by
    intro k sk h
    rw [List.getElem?_set] at h
    split at h
    · rename_i hk
      subst hk
      rw [if_pos (by simpa using hilt)] at h
      cases h
      exact .inl ⟨rfl, rfl⟩
    · rename_i hk
      rw [List.getElem?_set] at h
      split at h
      · rename_i hk2
        subst hk2
        rw [if_pos (by simpa using hjlt)] at h
        cases h
        exact .inr (.inl ⟨rfl, rfl⟩)
      · rename_i hk2
        rw [List.getElem?_map] at h
        cases hs0 : s.hp[k]? with
        | none => rw [hs0] at h; cases h
        | some s0 => rw [hs0] at h; cases h; exact .inr (.inr ⟨fun e => hk e.symm, fun e => hk2 e.symm, s0, rfl, rfl⟩)
  -- what is live was live
  have horig : ∀ (k : Nat) sk, (((s.hp.map (SB.ren (swpF i j))).set j .gone).set i (.row true eb t xs))[k]? = some sk → sk.live = true →
      ∃ k0 s0, s.hp[k0]? = some s0 ∧ s0.live = true ∧ upR E.ρ i (E.ρ j) k = E.ρ k0 ∧ k0 = (if k = i then j else k) := by
    intro k sk h hl
    rcases hget k sk h with ⟨rfl, rfl⟩ | ⟨rfl, rfl⟩ | ⟨h1, h2, s0, h3, rfl⟩
    · exact ⟨j, _, hj, rfl, upd_same _ _ _, by rw [if_pos rfl]⟩
    · simp [SB.live] at hl
    · rw [SB.live_ren] at hl
      exact ⟨k, s0, h3, hl, upd_other _ _ h1, by rw [if_neg h1]⟩
  have hlv : ∀ b, Lv (((s.hp.map (SB.ren (swpF i j))).set j .gone).set i (.row true eb t xs)) { E with ρ := upR E.ρ i (E.ρ j) } b → Lv s.hp E b := by
    rintro b ⟨k, sk, hk, hl, hb⟩
    obtain ⟨k0, s0, h1, h2, h3, _⟩ := horig k sk hk hl
    simp only at hb
    rw [h3] at hb
    exact ⟨k0, s0, h1, h2, hb⟩
  refine ⟨{ E with ρ := upR E.ρ i (E.ρ j) }, rfl, ⟨⟨?_, ?_, ?_, ?_, ?_⟩, hs.fr.ren hren, ?_, ?_, hs.defers, hs.size⟩⟩
  · simp [hs.hs.n]
  · intro k sk hk
    rcases hget k sk hk with ⟨rfl, rfl⟩ | ⟨rfl, rfl⟩ | ⟨h1, h2, s0, h3, rfl⟩
    · show SBok _ (upR E.ρ k (E.ρ j) k) _
      rw [upd_same]
      exact hs.hs.ok j _ hj
    · trivial
    · show SBok _ (upR E.ρ i (E.ρ j) k) _
      rw [upd_other _ _ h1]
      exact SBok.ren hren (fun _ _ _ => rfl) (hs.hs.ok k s0 h3)
  · intro p q sp sq b hp hq hpl hql hpb hqb
    obtain ⟨p0, s1, a1, a2, a3, a4⟩ := horig p sp hp hpl
    obtain ⟨q0, s2, b1, b2, b3, b4⟩ := horig q sq hq hql
    simp only at hpb hqb
    rw [a3] at hpb
    rw [b3] at hqb
    have e := hs.hs.dist _ _ _ _ b a1 b1 a2 b2 hpb hqb
    have np : p ≠ j := by
      rintro rfl
      rcases hget p sp hp with ⟨h, _⟩ | ⟨_, rfl⟩ | ⟨_, h, _⟩
      · exact hij h
      · simp [SB.live] at hpl
      · exact h rfl
    have nq : q ≠ j := by
      rintro rfl
      rcases hget q sq hq with ⟨h, _⟩ | ⟨_, rfl⟩ | ⟨_, h, _⟩
      · exact hij h
      · simp [SB.live] at hql
      · exact h rfl
    rw [a4, b4] at e
    by_cases h1 : p = i
    · by_cases h2 : q = i
      · rw [h1, h2]
      · rw [if_pos h1, if_neg h2] at e; exact absurd e.symm nq
    · by_cases h2 : q = i
      · rw [if_neg h1, if_pos h2] at e; exact absurd e np
      · rw [if_neg h1, if_neg h2] at e; exact e
  · intro b hb
    exact hs.hs.own b (hlv b hb)
  · exact hs.hs.old
  · exact hs.ev.trans ⟨rfl, rfl, rfl, Nat.le_refl _, fun _ _ _ => rfl, fun b hb => .inl (hlv b hb), fun _ h => h, fun _ h => .inl h, rfl⟩
  · refine ⟨by simpa using hs.id.le, fun k sk hk hsk => ?_⟩
    rcases hget k sk hsk with ⟨rfl, rfl⟩ | ⟨rfl, rfl⟩ | ⟨h1, h2, s0, h3, rfl⟩
    · trivial
    · trivial
    · show idok _ _ (upR E.ρ i (E.ρ j) k)
      rw [upd_other _ _ h1]
      exact idok_ren (hs.id.id k s0 hk h3)

theorem swpS_sat (hs : Sat S s E a) (i : Nat) (x : Option SV) : ∃ E', E'.w = E.w ∧ Sat S (swpS s i x) E' a := by
  unfold swpS
  split
  · rename_i j
    split
    · cases hi : s.hp[i]? with
      | none => exact ⟨E, rfl, by simpa [swp3] using hs⟩
      | some b =>
        cases b with
        | row mv eb t xs =>
          refine ⟨E, rfl, ?_⟩
          have h0 : SBok E (E.ρ i) (.row mv eb t xs) := hs.hs.ok i _ hi
          have := hs.setSame (sb' := .row true eb t xs) hi rfl (w' := E.w) (Chg.refl _ _) h0 rfl (fun rv0 _ => trivial)
          exact this
        | _ => exact ⟨E, rfl, by simpa [swp3] using hs⟩
    · rename_i hb
      simp only [Bool.or_eq_false_iff, beq_eq_false_iff_ne, ne_eq, Bool.not_eq_false'] at hb
      cases hj : s.hp[j]? with
      | none => exact ⟨E, rfl, by simpa [swp2] using hs⟩
      | some b =>
        cases b with
        | row mv eb t xs =>
          have := swp2_sat hs hb.1 hb.2 hj
          rw [hj] at this
          exact this
        | _ => exact ⟨E, rfl, by simpa [swp2] using hs⟩
  · exact ⟨E, rfl, hs⟩
end
end Go.V
