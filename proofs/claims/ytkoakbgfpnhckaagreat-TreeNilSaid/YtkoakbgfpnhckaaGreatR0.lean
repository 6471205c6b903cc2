/- The keys (integers) of a map that the layer holds, sorted: between the layer's words and the shelf's. -/
import Derived.Test.YtkoakbgfpnhckaaGreatVy
import Derived.Maps.Range
import Derived.Lib.SlKeysI
namespace Go.V
set_option linter.unusedSimpArgs false
set_option linter.unnecessarySimpa false
set_option linter.unusedVariables false
open Go.Maps
open Go.WideElems (Fit rg rg_of)
open Go.ChangeMaps Go.WideShapes
def keysI {vt : Ty} (m : List (Int × vt.den)) : List Int := m.map Prod.fst
def srtI {vt : Ty} (m : List (Int × vt.den)) : List Int := (keysI m).mergeSort leI
theorem rdM_keysI {w : World} {F : Nat → Prop} {va : Bool} {vt : Ty} : ∀ (m : List (Int × vt.den)) (es : List MapEntry), rdM w F va (.int .i64) vt m es → (es.map fun e => e.key) = m.map (fun x => Value.int .i64 x.1) ∧ ∀ x ∈ m, IntKind.i64.min ≤ x.1 ∧ x.1 ≤ IntKind.i64.max
 | [], es, h => by simp only [rdM] at h; subst h; simp
 | x :: m, es, h => by
  obtain ⟨e, r, rfl, h1, h2, h3⟩ := h
  obtain ⟨i1, i2⟩ := rdM_keysI m r h3
  simp only [rd] at h1
  obtain ⟨h1, h4⟩ := h1
  simp only [List.map_cons, i1]
  refine ⟨?_, fun y hy => ?_⟩
  ·injection h1 with h1 _
   rw [h1]
  ·rcases List.mem_cons.1 hy with rfl | hy
   ·exact h4
   ·exact i2 y hy
def R0 (v : Value) : Option (DataW Unit × List MemPlace) := some (.nil, [])
theorem key_int {P : Program} {k : TypeId} (hk : P.underlying k = some (.int .i64)) {x : Int} (h : IntKind.i64.min ≤ x ∧ x ≤ IntKind.i64.max) : keyOf P k (.int .i64 x) = some (.int .i64 x) := by
 have h2 : (Lit.int .i64 x).wf = true := by simp only [Lit.wf, Bool.and_eq_true, decide_eq_true_eq]; exact h
 simp [keyOf, hk, mapKey, h2]
theorem rg_keysI {P : Program} {k : TypeId} (hk : P.underlying k = some (.int .i64)) : ∀ (m : List Int) (es : List MapEntry), (es.map fun e => e.key) = m.map (Value.int .i64) → (∀ x ∈ m, IntKind.i64.min ≤ x ∧ x ≤ IntKind.i64.max) →
  (∀ e ∈ es, ∃ y, Go.WideElems.rd P k R0 e = some y) ∧ ((es.map (rg P k R0)).map fun p => intOf p.1) = m
 | [], es, h, _ => by simp at h; subst h; simp
 | x :: m, [], h, _ => by simp at h
 | x :: m, e :: es, h, hm => by
  simp only [List.map_cons, List.cons.injEq] at h
  obtain ⟨i1, i2⟩ := rg_keysI hk m es h.2 (fun y hy => hm y (List.mem_cons_of_mem _ hy))
  have hr : Go.WideElems.rd P k R0 e = some (.int .i64 x, .nil) := by
   unfold Go.WideElems.rd
   rw [h.1, key_int hk (hm x (by simp))]
   rfl
  refine ⟨fun y hy => ?_, ?_⟩
  ·rcases List.mem_cons.1 hy with rfl | hy
   ·exact ⟨_, hr⟩
   ·exact i1 y hy
  ·simp only [List.map_cons, i2]
   congr 1
   rw [rg_of hr]
   rfl
theorem ownsMap_ofI {P : Program} {k : TypeId} (hk : P.underlying k = some (.int .i64)) {w : World} {b : Nat} {es : Array MapEntry} {clk : Nat} {F : Nat → Prop} {va : Bool} {vt : Ty} {m : List (Int × vt.den)}
  (hb : w.heap[b]? = some (.map es clk)) (hm : mapok w F va (.int .i64) vt m es clk) :
  ∃ D : DataW Unit, w.ownsMap P k R0 b m.length D ∧ (intKeys D).Perm (keysI m) ∧ size D = m.length := by
 obtain ⟨k1, k2⟩ := rdM_keysI m es.toList hm.rd
 have hlen := rdM_length (kt := .int .i64) (vt := vt) m es.toList hm.rd
 have k1' : (es.toList.map fun e => e.key) = (m.map Prod.fst).map (Value.int .i64) := by rw [k1, List.map_map]; rfl
 obtain ⟨g1, g2⟩ := rg_keysI hk (m.map Prod.fst) es.toList k1' (fun x hx => by obtain ⟨y, hy, rfl⟩ := List.mem_map.1 hx; exact k2 y hy)
 refine ⟨.map ((es.toList.map (rg P k R0)).foldr DataW.insert []), ⟨es, clk, hb, ⟨?_, ⟨hm.clk, ?_, ?_⟩, g1⟩, ?_, rfl⟩, ?_, ?_⟩
 ·rw [← Array.length_toList, hlen]; exact hm.len
 ·exact hm.born.imp (fun h => by omega)
 ·rw [k1']
  refine List.pairwise_map.2 (hm.nodup.imp fun h e => h ?_)
  injection e
 ·rw [← Array.length_toList]; omega
 ·have := (sorted_perm (es.toList.map (rg P k R0))).map (fun p => intOf p.1)
  rw [g2] at this
  exact this
 ·show (_ : List _).length = _
  rw [(sorted_perm _).length_eq, List.length_map, hlen]
end Go.V
