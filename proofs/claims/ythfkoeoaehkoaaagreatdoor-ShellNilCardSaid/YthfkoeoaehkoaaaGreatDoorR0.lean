/- The keys of a map that the layer holds, sorted: between the layer's words and the shelf's. -/
import Derived.Test.YthfkoeoaehkoaaaGreatDoorVy
import Derived.Maps.Range
import Derived.Sort.KeysCollected
namespace Go.V
set_option linter.unusedSimpArgs false
set_option linter.unnecessarySimpa false
set_option linter.unusedVariables false
open Go.Maps
open Go.WideElems (Fit rg rg_of)
open Go.ChangeMaps Go.WideShapes
open Go.Proofs (encStr)
def keysB {vt : Ty} (m : List (ByteArray × vt.den)) : List (List UInt8) := m.map fun x => x.1.data.toList
def srtK {vt : Ty} (m : List (ByteArray × vt.den)) : List ByteArray := ((keysB m).mergeSort leB).map fun l => ⟨l.toArray⟩
theorem rdM_keys {w : World} {F : Nat → Prop} {va : Bool} {vt : Ty} : ∀ (m : List (ByteArray × vt.den)) (es : List MapEntry), rdM w F va .str vt m es → (es.map fun e => e.key) = m.map (fun x => Value.string x.1) ∧ ∀ x ∈ m, x.1.size ≤ maxLen
 | [], es, h => by simp only [rdM] at h; subst h; simp
 | x :: m, es, h => by
  obtain ⟨e, r, rfl, h1, h2, h3⟩ := h
  obtain ⟨i1, i2⟩ := rdM_keys m r h3
  simp only [rd] at h1
  obtain ⟨h1, h4⟩ := h1
  simp only [List.map_cons, i1]
  refine ⟨?_, fun y hy => ?_⟩
  ·injection h1 with h1 _
   rw [h1]
  ·rcases List.mem_cons.1 hy with rfl | hy
   ·exact h4
   ·exact i2 y hy
def R0 (v : Value) : Option (DataW Unit × List MemPlace) := some (.nil, [])
theorem key_str {P : Program} {k : TypeId} (hk : P.underlying k = some .string) {s : ByteArray} (h : s.size ≤ maxLen) : keyOf P k (.string s) = some (.string s.data.toList) := by
 simp [keyOf, hk, mapKey, h]
theorem rg_keys {P : Program} {k : TypeId} (hk : P.underlying k = some .string) : ∀ (m : List ByteArray) (es : List MapEntry), (es.map fun e => e.key) = m.map Value.string → (∀ x ∈ m, x.size ≤ maxLen) →
  (∀ e ∈ es, ∃ y, Go.WideElems.rd P k R0 e = some y) ∧ ((es.map (rg P k R0)).map fun p => strOf p.1) = m.map (fun x => x.data.toList)
 | [], es, h, _ => by simp at h; subst h; simp
 | x :: m, [], h, _ => by simp at h
 | x :: m, e :: es, h, hm => by
  simp only [List.map_cons, List.cons.injEq] at h
  obtain ⟨i1, i2⟩ := rg_keys hk m es h.2 (fun y hy => hm y (List.mem_cons_of_mem _ hy))
  have hr : Go.WideElems.rd P k R0 e = some (.string x.data.toList, .nil) := by
   unfold Go.WideElems.rd
   rw [h.1, key_str hk (hm x (by simp))]
   rfl
  refine ⟨fun y hy => ?_, ?_⟩
  ·rcases List.mem_cons.1 hy with rfl | hy
   ·exact ⟨_, hr⟩
   ·exact i1 y hy
  ·simp only [List.map_cons, i2]
   congr 1
   rw [rg_of hr]
   rfl
theorem ownsMap_of {P : Program} {k : TypeId} (hk : P.underlying k = some .string) {w : World} {b : Nat} {es : Array MapEntry} {clk : Nat} {F : Nat → Prop} {va : Bool} {vt : Ty} {m : List (ByteArray × vt.den)}
  (hb : w.heap[b]? = some (.map es clk)) (hm : mapok w F va .str vt m es clk) :
  ∃ D : DataW Unit, w.ownsMap P k R0 b m.length D ∧ (strKeys D).Perm (keysB m) ∧ size D = m.length := by
 obtain ⟨k1, k2⟩ := rdM_keys m es.toList hm.rd
 have hlen := rdM_length (kt := .str) (vt := vt) m es.toList hm.rd
 have k1' : (es.toList.map fun e => e.key) = (m.map Prod.fst).map Value.string := by rw [k1, List.map_map]; rfl
 obtain ⟨g1, g2⟩ := rg_keys hk (m.map Prod.fst) es.toList k1' (fun x hx => by obtain ⟨y, hy, rfl⟩ := List.mem_map.1 hx; exact k2 y hy)
 refine ⟨.map ((es.toList.map (rg P k R0)).foldr DataW.insert []), ⟨es, clk, hb, ⟨?_, ⟨hm.clk, ?_, ?_⟩, g1⟩, ?_, rfl⟩, ?_, ?_⟩
 ·rw [← Array.length_toList, hlen]; exact hm.len
 ·exact hm.born.imp (fun h => by omega)
 ·rw [k1']
  refine List.pairwise_map.2 (hm.nodup.imp fun h e => h ?_)
  injection e
 ·rw [← Array.length_toList]; omega
 ·have := (sorted_perm (es.toList.map (rg P k R0))).map (fun p => strOf p.1)
  rw [g2] at this
  simp only [strKeys, keysB]
  rw [List.map_map] at this
  exact this
 ·show (_ : List _).length = _
  rw [(sorted_perm _).length_eq, List.length_map, hlen]
end Go.V
