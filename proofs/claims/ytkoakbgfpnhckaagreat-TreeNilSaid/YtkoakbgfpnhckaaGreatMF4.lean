/- A part of the proof layer, or functions of the given program in it: contracts and their proofs. -/
import Derived.Test.YtkoakbgfpnhckaaGreatME8
import Derived.Test.YtkoakbgfpnhckaaGreatR3
import Derived.Shelf.SlSortCmp.WholeK
import Derived.Shelf.Small.Strs
import Derived.Sort.OwnSorted
namespace Go.Proofs
set_option linter.unusedSimpArgs false
set_option linter.unnecessarySimpa false
open Go.RowKit Go.Shelf Go.Maps Go.Lib Go.Sort
set_option linter.unusedVariables false
set_option maxRecDepth 100000
set_option maxHeartbeats 2000000
def chCmp (x y : ChV) : Int := Lib.compareBytes x.key.data.toList y.key.data.toList
theorem closure39 (x y : ChV) (W : World) : Calls Tryz.prog 39 #[.agg #[.string x.key, .slice x.p x.len x.cap, .bool x.g], .agg #[.string y.key, .slice y.p y.len y.cap, .bool y.g]] W fun e w' => e = .returned (.int .i64 (chCmp x y)) ∧ ∃ q os', w' = grow (W.drewN q) os' := by
 have hcon := fun W' => Any.strings_Compare Tryz.cmpS x.key y.key W'
 change ∀ W', Calls Tryz.prog 40 _ _ _ at hcon
 unfold chCmp
 generalize Lib.compareBytes x.key.data.toList y.key.data.toList = r at hcon ⊢
 go_enter Tryz.func39, Tryz.ntmps39
 go_wp2_with (go_at_call 40; refine (hcon _).mono ?_; rintro e w' ⟨rfl, rfl⟩)
 go_ret
 exact ⟨rfl, 0, _, by rw [alloc_eq_grow, alloc_eq_grow, grow_grow]; rfl⟩
theorem cmpLays39 (blk off size : Nat) (w : World) : CmpLays Tryz.prog 39 #[] ChV.enc 3 chCmp blk off size w :=
 fun _ _ _ _ x y => closure39 x y _
end Go.Proofs
namespace Go.Proofs
set_option linter.unusedSimpArgs false
set_option linter.unnecessarySimpa false
open Go.RowKit Go.Shelf Go.Maps Go.Lib Go.Sort
set_option linter.unusedVariables false
set_option maxRecDepth 100000
set_option maxHeartbeats 2000000
theorem cmpB_lt : ∀ a b : List UInt8, compareBytes a b < 0 ↔ a < b
 | [], [] => by simp [compareBytes]
 | [], _ :: _ => by simp [compareBytes]
 | _ :: _, [] => by simp [compareBytes]
 | a :: xs, b :: ys => by
  unfold compareBytes
  rw [List.cons_lt_cons_iff]
  split
  ·rename_i h; simp [h]
  ·rename_i h
   split
   ·rename_i h2
    constructor
    ·intro e; omega
    ·rintro (e | ⟨rfl, _⟩)
     ·exact absurd e h
     ·exact absurd h2 (by simp)
   ·rename_i h2
    have e : a = b := UInt8.le_antisymm (UInt8.not_lt.1 h2) (UInt8.not_lt.1 h)
    subst e
    rw [cmpB_lt xs ys]
    simp
theorem ltCh (x y : ChV) : ltOf chCmp x y = decide (x.key.data.toList < y.key.data.toList) := by
 unfold ltOf chCmp
 by_cases h : x.key.data.toList < y.key.data.toList
 ·simp [h, (cmpB_lt _ _).2 h]
 ·have h' := mt (cmpB_lt _ _).1 h
  simp [h, h']
theorem swoCh : SWO (ltOf chCmp) where
 irrefl x := by rw [ltCh]; simp
 trans x y z h1 h2 := by rw [ltCh] at *; simp only [decide_eq_true_eq] at *; exact List.lt_trans h1 h2
 ntrans x y z h1 h2 := by rw [ltCh] at *; simp only [decide_eq_false_iff_not, List.not_lt] at *; exact List.le_trans h2 h1
theorem ChV.len3 (x : ChV) : (ChV.enc x).length = 3 := rfl
theorem ChV.one (x : ChV) : ∀ v ∈ ChV.enc x, v.oneCell' = true := by
 intro v hv
 simp [ChV.enc] at hv
 rcases hv with rfl | rfl | rfl <;> rfl
theorem getElem!_list (ds : List ChV) (i : Nat) : ds.toArray[i]! = ds[i]?.getD default := by
 rw [getElem!_def]
 simp
 cases h : ds[i]? <;> simp [h]
theorem get_flat : ∀ (ds : List ChV) (t : Nat), t < ds.length * 3 → (ds.flatMap ChV.enc)[t]? = (ChV.enc (ds[t / 3]?.getD default))[t % 3]?
 | [], t, h => by simp at h
 | x :: r, t, h => by
  rw [List.flatMap_cons]
  by_cases ht : t < 3
  ·rw [List.getElem?_append_left (by rw [x.len3]; exact ht), Nat.div_eq_of_lt ht, Nat.mod_eq_of_lt ht]
   rfl
  ·rw [List.getElem?_append_right (by rw [x.len3]; omega), x.len3, get_flat r (t - 3) (by simp only [List.length_cons] at h; omega)]
   have e1 : t / 3 = (t - 3) / 3 + 1 := by omega
   have e2 : t % 3 = (t - 3) % 3 := by omega
   rw [e1, e2, List.getElem?_cons_succ]
theorem flat_length (ds : List ChV) : (ds.flatMap ChV.enc).length = ds.length * 3 := by
 induction ds with
 | nil => rfl
 | cons x r ih => rw [List.flatMap_cons, List.length_append, ih, x.len3, List.length_cons]; omega
theorem flat_eq (ds : List ChV) : (flatK ChV.enc 3 ds.toArray).toList = ds.flatMap ChV.enc := by
 apply List.ext_getElem?
 intro t
 by_cases ht : t < ds.length * 3
 ·have h3 : t % 3 < (ChV.enc (ds[t / 3]?.getD default)).length := by rw [ChV.len3]; omega
  rw [get_flat ds t ht, Array.getElem?_toList]
  unfold flatK
  rw [Array.getElem?_map, Array.getElem?_range, if_pos (by simpa using ht)]
  simp only [Option.map_some]
  rw [getElem!_list, getElem!_pos (ChV.enc (ds[t / 3]?.getD default)) (t % 3) h3, List.getElem?_eq_getElem h3]
 ·rw [List.getElem?_eq_none (by simp; omega), List.getElem?_eq_none (by rw [flat_length]; omega)]
theorem holds_id {w : World} {g : Nat} {cur : Array Value} {e : TypeId} {F : Array Value} (hb : w.heap[g]? = some (.cells cur e (0, 0))) (ht : cur.toList.take F.size = F.toList) : Holds id w g 0 F := by
 intro j hj
 refine ⟨?_, by simp [World.frozen?, hb]⟩
 have h1 : (cur.toList.take F.size)[j]? = F.toList[j]? := by rw [ht]
 rw [List.getElem?_take_of_lt hj] at h1
 simp only [World.cell?, hb, Nat.zero_add]
 simp only [Option.isSome_none, Bool.false_eq_true, if_false]
 rw [← Array.getElem?_toList, h1]
 simp [hj]
theorem heap_id {w : World} {g n : Nat} {os : Array Obj} {cur : Array Value} {e : TypeId} {fr : Nat × Nat} (F : Array Value) (hb : w.heap[g]? = some (.cells cur e fr)) :
  (grow (putRow id (Sort.ahead w n) g 0 F) os).heap[g]? = some (.cells (putCells id 0 F cur) e fr) := by
 have hg : g < w.heap.size := (Array.getElem?_eq_some_iff.1 hb).1
 rw [heap_grow_old _ _ (by simpa [putRow, mapBlock, Sort.ahead] using hg)]
 simp [putRow, mapBlock, Sort.ahead, Array.getElem?_modify, hb, onCells]
theorem grownBy_id {w : World} {g n : Nat} {os : Array Obj} (F : Array Value) : w.grownBy (grow (putRow id (Sort.ahead w n) g 0 F) os) (some g) := by
 refine ⟨rfl, rfl, rfl, by simp, fun k hk hne => ?_⟩
 rw [heap_grow_old _ _ (by simpa using hk)]
 have : g ≠ k := fun e => hne (by rw [e])
 simp [putRow, mapBlock, Sort.ahead, Array.getElem?_modify, this]
theorem take_id (cur F : Array Value) (h : F.size ≤ cur.size) : (putCells id 0 F cur).toList.take F.size = F.toList := by
 apply List.ext_getElem?
 intro j
 by_cases hj : j < F.size
 ·rw [List.getElem?_take_of_lt hj, Array.getElem?_toList]
  simp [putCells, hj, show j < cur.size by omega]
 ·rw [List.getElem?_take_eq_none (by omega), List.getElem?_eq_none (by simp; omega)]
end Go.Proofs
namespace Go.Proofs
set_option linter.unusedSimpArgs false
set_option linter.unnecessarySimpa false
open Go.RowKit Go.Shelf Go.Maps Go.Lib Go.Sort
set_option linter.unusedVariables false
set_option maxRecDepth 100000
set_option maxHeartbeats 2000000
def SrtOf (zs : List ChV) (d : Array ChV) : Prop := PermIn 0 zs.length zs.toArray d ∧ SortedIn (ltOf chCmp) 0 zs.length d
theorem sortF37 (w : World) (Bs b off cap : Nat) (zs : List ChV) (hN : zs.length ≤ maxLen) (hNb : zs.length * 48 ≤ 140737488355328) (hne0 : zs ≠ [])
  (hBl : Bs < w.heap.size) (hb : b < w.heap.size) (hBs : w.cell? ⟨Bs, 0, none⟩ = some (.slice (some ⟨b, off, none⟩) zs.length cap)) (hc : ChAt w b off zs) :
  Calls Tryz.prog 37 #[.func (.func 63) #[] #[.pointer (some ⟨Bs, 0, none⟩)], .func (.func 39) #[] #[]] w fun e w' => ∃ (v : Value) (d : Array ChV), e = .returned v ∧ SrtOf zs d ∧ w'.ownsRow w.heap.size 45 3 v zs.length (d.toList.flatMap ChV.enc) ∧ v ≠ .slice none 0 0 ∧ RowKit.Below w.heap.size w w' := by
 refine (callsIn_wide (n := 6)).1 ?_
 have e61 : ∀ args w, (callFunc 61 args).run Tryz.prog w = .ok (.enter 61 args) w := enters_of Tryz.func61 (by kernel_rfl) rfl
 have e62 : ∀ args w, (callFunc 62 args).run Tryz.prog w = .ok (.enter 62 args) w := enters_of Tryz.func62 (by kernel_rfl) rfl
 have e39 : ∀ args w, (callFunc 39 args).run Tryz.prog w = .ok (.enter 39 args) w := enters_of Tryz.func39 (by kernel_rfl) rfl
 have h1 : 1 ≤ 6 := by omega
 refine callsIn_of_wp Tryz.func37 rfl trivial ?_ rfl
 simp only [Tryz.ntmps37, List.size_toArray, List.length_cons, List.length_nil, Nat.reduceAdd, Nat.reduceSub, Array.replicate_succ, Array.replicate_zero, List.push_toArray, List.append_toArray, List.nil_append, List.cons_append]
 gi_wp2_with (refine ⟨trivial, ?_⟩; gi_at_call 61; refine (collect61 Fence.wide 5 trivial trivial trivial rfl (by omega) w Bs b off cap zs hN hNb hBl hb hBs hc).mono ?_; rintro e W ⟨v, rfl, hrow, hnil, hbW⟩)
 rcases hrow.2 with ⟨rfl, hz⟩ | ⟨gb, cap', cur, rfl, hbase, hgb, r1, r2, r3, r4⟩
 ·exact absurd (List.eq_nil_of_length_eq_zero hz) hne0
 have hfl : (flatK ChV.enc 3 zs.toArray).size = zs.length * 3 := by simp
 have hH : HoldsK ChV.enc 3 W gb 0 zs.toArray := holds_id hgb (by rw [hfl, r4, flat_eq])
 have hgl : gb < W.heap.size := (Array.getElem?_eq_some_iff.1 hgb).1
 have cS := AnyQ.slices_SortFunc Tryz.sortF 3 Tryz.isAgg45 Tryz.sizeOf45 ChV.enc ChV.len3 ChV.one chCmp swoCh 39 #[] gb 0 cap' zs.toArray W e39 (cmpLays39 gb 0 _ W) hH hgl (by simp; unfold maxLen at hN; omega)
 change Calls Tryz.prog 62 _ _ _ at cS
 simp only [List.size_toArray] at cS
 gi_wp2_with (refine ⟨trivial, ?_⟩; gi_at_call 62; refine (callsIn_wide.2 cS).mono ?_; rintro e w' ⟨rfl, d, nn, os, hp, hs, rfl⟩)
 go_ret
 have hds : d.size = zs.length := by have := hp.1; simpa using this
 have hdl : d = d.toList.toArray := by simp
 refine ⟨_, d, rfl, ⟨hp, hs⟩, ?_, by simp, ?_⟩
 ·refine ⟨by rw [flat_length]; simp [hds], .inr ⟨gb, cap', _, rfl, hbase, heap_id _ hgb, r1, r2, by simp [putCells, r3], ?_⟩⟩
  have hf2 : (flatK ChV.enc 3 d).size = zs.length * 3 := by simp [hds]
  rw [← hf2, take_id _ _ (by rw [hf2, r3]; omega)]
  conv => lhs; rw [hdl]
  exact flat_eq d.toList
 ·exact hbW.grown (grownBy_id _) hbW.size (fun j hj => by cases hj; exact hbase)
end Go.Proofs
