/- Lists made of their elements. -/
import Derived.Test.YtkjecjgfkogkoaaVn
namespace Go.V
set_option linter.unusedSimpArgs false
set_option linter.unnecessarySimpa false
set_option linter.unusedVariables false

/-- n elements out of cells. -/
def Ty.ofSvL (t : Ty) : Nat → List SV → Option (List t.den)
  | 0, [] => some []
  | 0, _ :: _ => none
  | n + 1, l => match t.ofSv l with
    | some (x, r) => match Ty.ofSvL t n r with
      | some xs => some (x :: xs)
      | none => none
    | none => none

theorem ofSvL_sound {E : En} (t : Ty) : ∀ (n : Nat) (l : List SV) (xs : List t.den) (cs : List Value), t.ofSvL n l = some xs → denC E l cs → xs.length = n ∧ rdL (rd E.w E.Fz t) xs cs
  | 0, [], xs, cs, h, hc => by simp only [Ty.ofSvL] at h; cases h; simp only [denC] at hc; subst hc; exact ⟨rfl, rfl⟩
  | 0, _ :: _, xs, cs, h, hc => by simp only [Ty.ofSvL] at h; cases h
  | n + 1, l, xs, cs, h, hc => by
    simp only [Ty.ofSvL] at h
    split at h
    · rename_i x r hx
      split at h
      · rename_i xs' hxs
        cases h
        obtain ⟨c1, c2, rfl, h1, h2⟩ := ofSv_sound t l x r cs hx hc
        obtain ⟨h3, h4⟩ := ofSvL_sound t n r xs' c2 hxs h2
        exact ⟨by simp [h3], c1, c2, rfl, h1, h4⟩
      · cases h
    · cases h

/-- The cells of all parts, each of so many. -/
def partsC (s : SS) (sz : Nat) : List (Nat × Opd) → Option (List SV)
  | [] => some []
  | (_, x) :: r => match flatS (s.get x) with
    | some l => if widthL l = sz then match partsC s sz r with
        | some l' => some (l ++ l')
        | none => none
      else none
    | none => none

theorem seq_step {α : Type} (C V F : List α) (p n q : Nat) (hV : V.length = n) (hC : p + n + q ≤ C.length) :
    (C.take p ++ (V ++ C.drop (p + n))).take (p + n) ++ F ++ (C.take p ++ (V ++ C.drop (p + n))).drop (p + n + q) = C.take p ++ (V ++ F) ++ C.drop (p + n + q) := by
  have h1 : (C.take p ++ (V ++ C.drop (p + n))).take (p + n) = C.take p ++ V := by
    rw [← List.append_assoc, List.take_left']
    simp [hV]; omega
  have h2 : (C.take p ++ (V ++ C.drop (p + n))).drop (p + n + q) = C.drop (p + n + q) := by
    rw [← List.append_assoc, ← List.drop_drop, List.drop_left', List.drop_drop]
    simp [hV]; omega
  rw [h1, h2]; simp

theorem fill_seq (sz : Nat) : ∀ (vs : List Value) (k : Nat) (cells : Array Value), (∀ v ∈ vs, v.cells.size = sz) → (k + vs.length) * sz ≤ cells.size →
    ∃ cells', Instr.fill (fun i => some (i * sz, sz)) cells (vs.zipIdx k |>.map fun x => (x.2, x.1)) = some cells' ∧ cells'.size = cells.size ∧
      cells'.toList = cells.toList.take (k * sz) ++ (vs.flatMap fun v => v.cells.toList) ++ cells.toList.drop ((k + vs.length) * sz)
  | [], k, cells, _, h => ⟨cells, by simp [Instr.fill], rfl, by simp⟩
  | v :: vs, k, cells, hv, h => by
    have hvs := hv v (by simp)
    have hle : k * sz + sz + vs.length * sz ≤ cells.size := by
      rw [List.length_cons, Nat.add_mul, Nat.succ_mul] at h; omega
    simp only [List.zipIdx_cons, List.map_cons, Instr.fill]
    have hc : (decide (v.cells.size ≠ sz) || decide (k * sz + v.cells.size > cells.size)) = false := by
      simp [hvs]; omega
    rw [hc]
    simp only [Bool.false_eq_true, if_false]
    have hf := fill_fold (k * sz) v.cells.toList 0 cells (by simp [hvs]; omega)
    simp only [Nat.add_zero, Array.length_toList, hvs] at hf
    have hz : (v.cells.zipIdx.foldl (fun cs (x : Value × Nat) => cs.setIfInBounds (k * sz + x.2) x.1) cells) = (v.cells.toList.zipIdx 0).foldl (fun (cs : Array Value) (x : Value × Nat) => cs.setIfInBounds (k * sz + x.2) x.1) cells := by
      rw [← Array.foldl_toList]; simp
    have hsz : (v.cells.zipIdx.foldl (fun cs (x : Value × Nat) => cs.setIfInBounds (k * sz + x.2) x.1) cells).size = cells.size := by
      rw [hz, ← Array.length_toList, hf]
      simp [hvs]; omega
    obtain ⟨cells', h1, h2, h3⟩ := fill_seq sz vs (k + 1) _ (fun x hx => hv x (by simp [hx])) (by rw [hsz, Nat.add_mul, Nat.succ_mul]; exact hle)
    refine ⟨cells', h1, h2.trans hsz, ?_⟩
    rw [h3, hz, hf]
    have := seq_step cells.toList v.cells.toList (vs.flatMap fun v => v.cells.toList) (k * sz) sz (vs.length * sz) (by simp [hvs]) (by simpa using hle)
    rw [show (k + 1) * sz = k * sz + sz from Nat.succ_mul k sz, show (k + 1 + vs.length) * sz = k * sz + sz + vs.length * sz by rw [Nat.add_mul, Nat.succ_mul], this]
    rw [List.length_cons, show (k + (vs.length + 1)) * sz = k * sz + sz + vs.length * sz by rw [Nat.add_mul, Nat.succ_mul]; omega]
    simp

end Go.V
