/- Maps are written. -/
import Derived.Test.YtkjecjgfkogkoaaVp
namespace Go.V
set_option linter.unusedSimpArgs false
set_option linter.unnecessarySimpa false
set_option linter.unusedVariables false

theorem updM_none {kt vt : Ty} {key : kt.den} {y : vt.den} (hb : ∀ x y : kt.den, kt.beq x y = true ↔ x = y) : ∀ (m : List (kt.den × vt.den)), (∀ x ∈ m, x.1 ≠ key) → updM kt vt m key y = m ++ [(key, y)]
  | [], _ => rfl
  | (k, v) :: r, h => by
    have h1 : kt.beq k key = false := by
      cases hk : kt.beq k key with
      | false => rfl
      | true => exact absurd ((hb _ _).1 hk) (h (k, v) (by simp))
    simp only [updM, h1, cond_false, List.cons_append]
    rw [updM_none hb r (fun x hx => h x (List.mem_cons_of_mem _ hx))]

theorem updM_some {kt vt : Ty} {key : kt.den} {y : vt.den} (hb : ∀ x y : kt.den, kt.beq x y = true ↔ x = y) : ∀ (m : List (kt.den × vt.den)) (j : Nat) (x : kt.den × vt.den), (m.map Prod.fst).Nodup → m[j]? = some x → x.1 = key → updM kt vt m key y = m.set j (key, y)
  | [], j, x, _, h, _ => by simp at h
  | (k, v) :: r, 0, x, hn, h, hx => by
    simp at h; subst h
    simp only at hx
    subst hx
    simp only [updM, (hb _ _).2 rfl, cond_true, List.set_cons_zero]
  | (k, v) :: r, j + 1, x, hn, h, hx => by
    simp only [List.map_cons, List.nodup_cons] at hn
    have hj : r[j]? = some x := by simpa using h
    have h1 : kt.beq k key = false := by
      cases hk : kt.beq k key with
      | false => rfl
      | true =>
        have := (hb _ _).1 hk
        subst this
        exact absurd (by rw [← hx]; exact List.mem_map_of_mem (List.mem_of_getElem? hj)) hn.1
    simp only [updM, h1, cond_false, List.set_cons_succ]
    rw [updM_some hb r j x hn.2 hj hx]

theorem rdM_push {w : World} {F : Nat → Prop} {va : Bool} {kt vt : Ty} {x : kt.den × vt.den} {e : MapEntry} (h1 : rd w F kt x.1 [e.key]) (h2 : rdV w F va vt x.2 e.val) : ∀ (m : List (kt.den × vt.den)) (es : List MapEntry), rdM w F va kt vt m es → rdM w F va kt vt (m ++ [x]) (es ++ [e])
  | [], es, h => by simp only [rdM] at h; subst h; exact ⟨e, [], rfl, h1, h2, rfl⟩
  | y :: m, es, h => by
    obtain ⟨e', r, rfl, h3, h4, h5⟩ := h
    exact ⟨e', r ++ [e], rfl, h3, h4, rdM_push h1 h2 m r h5⟩

theorem rdM_set {w : World} {F : Nat → Prop} {va : Bool} {kt vt : Ty} {x : kt.den × vt.den} {e : MapEntry} (h1 : rd w F kt x.1 [e.key]) (h2 : rdV w F va vt x.2 e.val) : ∀ (m : List (kt.den × vt.den)) (es : List MapEntry) (j : Nat), rdM w F va kt vt m es → rdM w F va kt vt (m.set j x) (es.set j e)
  | [], es, j, h => by simp only [rdM] at h; subst h; simp [rdM]
  | y :: m, es, 0, h => by
    obtain ⟨e', r, rfl, h3, h4, h5⟩ := h
    exact ⟨e, r, rfl, h1, h2, h5⟩
  | y :: m, es, j + 1, h => by
    obtain ⟨e', r, rfl, h3, h4, h5⟩ := h
    exact ⟨e', r.set j e, rfl, h3, h4, rdM_set h1 h2 m r j h5⟩

theorem frzAll_map {i : Nat} {va : Bool} {kt vt : Ty} {m : List (kt.den × vt.den)} : ∀ (idx : List Nat) (s : SS) (l : List SV), s.hp[i]? = some (.map va kt vt m) → (frzAll s l idx).1.hp[i]? = some (.map va kt vt m)
  | [], s, l, h => h
  | j :: r, s, l, h => by
    simp only [frzAll]
    split
    · rename_i mv eb t xs hj
      refine frzAll_map r _ _ ?_
      have hne : j ≠ i := fun e => by subst e; rw [h] at hj; cases hj
      rw [List.getElem?_set_ne hne, List.getElem?_map, h]
      rfl
    · exact frzAll_map r _ _ h

end Go.V
