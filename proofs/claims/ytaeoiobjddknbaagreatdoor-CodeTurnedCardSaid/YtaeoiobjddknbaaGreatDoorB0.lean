/- The library's strings.Builder: copyCheck and String, walked. -/
import Derived.Test.YtaeoiobjddknbaaGreatDoorR1
import Derived.Shelf.RegionOpenPlain
import Derived.Lib.Strings
import Derived.Lib.Slices
import Derived.Lib.Walk
import Derived.Lib.Builder
import Derived.Lib.AppendStr
import Derived.Lib.UnsafeStr
import Derived.WalkKit
import Derived.Laws.Externs
namespace Go.Proofs
set_option linter.unusedSimpArgs false
set_option linter.unnecessarySimpa false
open Go.Shelf Go.RowKit
set_option linter.unusedVariables false
set_option maxHeartbeats 1000000
set_option maxRecDepth 100000
theorem bld_size : (Tryz.prog.info? 49).map (·.size) = some 2 := by kernel_rfl
theorem bld_lies : liesAt Tryz.prog Tryz.prog.depth 49 (2 / Tryz.prog.cellsOf 49) 0 49 1 = true := by kernel_rfl
theorem bld_used (b : Nat) (w : World) (h0 : w.cell? ⟨b, 0, none⟩ = some (.pointer (some ⟨b, 0, none⟩))) :
  Calls Tryz.prog 35 #[.pointer (some ⟨b, 0, none⟩)] w fun e w' => e = .returned (.tuple #[]) ∧ w' = w := by
 obtain ⟨j, hj, _⟩ := Option.map_eq_some_iff.1 bld_size
 go_enter Tryz.func35, Tryz.ntmps35
 go_wp2
 rw [Lib.run_neq_ptr_same w _ Tryz.underlying47 hj]
 go_wp2
 go_end0
 exact ⟨rfl, rfl⟩
theorem bld_fresh (b : Nat) (w : World) (h0 : w.cell? ⟨b, 0, none⟩ = some (.pointer none)) (hsh : w.shape? b = some (49, 2)) (hfz : w.frozen? ⟨b, 0, none⟩ = false) :
  Calls Tryz.prog 35 #[.pointer (some ⟨b, 0, none⟩)] w fun e w' => e = .returned (.tuple #[]) ∧ w' = w.setCell ⟨b, 0, none⟩ (.pointer (some ⟨b, 0, none⟩)) := by
 obtain ⟨j, hj, hjs⟩ := Option.map_eq_some_iff.1 bld_size
 go_enter Tryz.func35, Tryz.ntmps35
 go_wp2
 rw [Lib.run_to_unsafe w ⟨b, 0, none⟩ Tryz.underlying47 Tryz.underlying108 hj (by rw [hjs]; decide) hsh (Nat.zero_lt_succ 1)]
 simp only [Result.andThen]
 rw [Oper.upon_value]
 go_wp2
 rw [run_callFunc_extern Tryz.func59 (by kernel_rfl) (by kernel_rfl) (by kernel_rfl) (e := Extern.AbiNoEscape.same) (by kernel_rfl)]
 rw [Lib.run_noEscape]
 simp only [Result.andThen]
 rw [Oper.upon_value]
 go_wp2
 rw [Lib.run_from_unsafe w ⟨b, 0, none⟩ Tryz.underlying108 Tryz.underlying47 hj hsh bld_lies]
 simp only [Result.andThen]
 rw [Oper.upon_value]
 go_wp2
 go_end0
 exact ⟨rfl, rfl⟩
theorem mixedO : Tryz.prog.follows .mixedOrders = true := by kernel_rfl
theorem bld_str0 (b : Nat) (w : World) (h1 : w.cell? ⟨b, 1, none⟩ = some (.slice none 0 0)) :
  Calls Tryz.prog 17 #[.pointer (some ⟨b, 0, none⟩)] w fun e w' => e = .returned (.string ⟨#[]⟩) ∧ w' = w.drew := by
 have hSD : (Builtin.unsafeSliceData_ #[35] 87 #[.slice none 0 0]).run Tryz.prog w.drew = .ok (.pointer none) w.drew := rfl
 have hUS : (Builtin.unsafeString_ #[87, 3] 9 #[.pointer none, .int .i64 0]).run Tryz.prog w.drew = .ok (.string .empty) w.drew := Lib.run_unsafeString_none w.drew _ _ _ _
 have c1 : w.drew.cell? ⟨b, 1, none⟩ = some (.slice none 0 0) := h1
 have mixed := mixedO
 go_enter Tryz.func17, Tryz.ntmps17
 go_wp2
 go_region_o
 all_goals (go_wp2; go_ret; exact ⟨rfl, rfl⟩)
theorem liesAt_off {P : Program} {e : TypeId} (hc : P.cellsOf e = 1) (count off n : Nat) (hn : off + n ≤ count) : liesAt P P.depth e count off e n = true := by
 have hd : P.depth = (2 * (P.types.size + Made.depth) + 1) + 1 := rfl
 rw [hd]
 simp only [liesAt, Bool.or_eq_true]
 left
 rw [hd]
 simp [rowAt, hc, hn, sameLayout, Nat.mod_one]
theorem run_unsafeString_off {P : Program} (w : World) (pt it ty e : TypeId) (hp : P.underlying pt = some (.pointer e)) (hc : P.cellsOf e = 1) (g off cells : Nat) (hsh : w.shape? g = some (e, cells)) (l : List UInt8) (h0 : l ≠ []) (hn : off + l.length ≤ cells) (h63 : l.length ≤ 9223372036854775807)
  (hcell : ∀ j x, l[j]? = some x → w.cell? ((⟨g, off, none⟩ : Addr).add j) = some (.int .u8 x.toNat)) :
  (Builtin.unsafeString_ #[pt, it] ty #[.pointer (some ⟨g, off, none⟩), .int .i64 l.length]).run P w = .ok (.string ⟨l.toArray⟩) (w.freeze ⟨g, off, none⟩ l.length) := by
 have hl : l.length ≠ 0 := by simpa using h0
 have hlb := Lib.run_loadBytes (P := P) w l ⟨g, off, none⟩ .empty hcell
 have hlies := liesAt_off (P := P) hc (cells / P.cellsOf e) off l.length (by rw [hc]; simpa using hn)
 have h63' : ¬ (9223372036854775807 : Int) < (l.length : Int) := by omega
 change (asInt (.int .i64 l.length) >>= _).run P w = _
 have hmax : IntKind.i64.max = 9223372036854775807 := rfl
 have hneg : ¬ (l.length : Int) < 0 := by omega
 simp [asInt, asIntOf, hmax, h63', hneg, hl, variablesAt, hsh, elemOf, run_underlying hp, hlies, hlb]
theorem bld_str1 (b g off cap : Nat) (l : List UInt8) (cur : Array Value) (fr : Nat × Nat) (w : World) (h0 : l ≠ []) (h1 : w.cell? ⟨b, 1, none⟩ = some (.slice (some ⟨g, off, none⟩) l.length cap))
  (hg : w.heap[g]? = some (.cells cur 5 fr)) (hnc : l.length ≤ cap) (hcm : cap ≤ maxLen) (ht : (cur.toList.drop off).take l.length = l.map fun x => Value.int .u8 x.toNat) :
  Calls Tryz.prog 17 #[.pointer (some ⟨b, 0, none⟩)] w fun e w' => e = .returned (.string ⟨l.toArray⟩) ∧ w' = w.drew.freeze ⟨g, off, none⟩ l.length := by
 have hl0 : l.length ≠ 0 := by simpa using h0
 have c1 : w.drew.cell? ⟨b, 1, none⟩ = some (.slice (some ⟨g, off, none⟩) l.length cap) := h1
 have hSD : (Builtin.unsafeSliceData_ #[35] 87 #[.slice (some ⟨g, off, none⟩) l.length cap]).run Tryz.prog w.drew = .ok (.pointer (some ⟨g, off, none⟩)) w.drew :=
  Lib.run_unsafeSliceData_row _ _ _ _ _ _ (by omega)
 have hlc : off + l.length ≤ cur.size := by
  have := congrArg List.length ht
  simp at this
  omega
 have hUS : (Builtin.unsafeString_ #[87, 3] 9 #[.pointer (some ⟨g, off, none⟩), .int .i64 l.length]).run Tryz.prog w.drew = .ok (.string ⟨l.toArray⟩) (w.drew.freeze ⟨g, off, none⟩ l.length) := by
  refine run_unsafeString_off w.drew 87 3 9 5 Tryz.underlying87 (by kernel_rfl) g off cur.size (by have hg' : w.drew.heap[g]? = some (.cells cur 5 fr) := hg; simp [World.shape?, hg']) l h0 hlc (by unfold maxLen at hcm; omega) ?_
  intro j x hx
  have hj : j < l.length := (List.getElem?_eq_some_iff.1 hx).1
  have h2 : cur[off + j]? = some (.int .u8 x.toNat) := by
   have h3 : ((cur.toList.drop off).take l.length)[j]? = some (.int .u8 x.toNat) := by rw [ht, List.getElem?_map, hx]; rfl
   rw [List.getElem?_take_of_lt hj, List.getElem?_drop, Array.getElem?_toList] at h3
   exact h3
  have hg' : w.drew.heap[g]? = some (.cells cur 5 fr) := hg
  have hadd : (⟨g, off, none⟩ : Addr).add j = ⟨g, off + j, none⟩ := by unfold Addr.add; split <;> simp_all
  rw [hadd]
  simp [World.cell?, hg', h2]
 have mixed := mixedO
 go_enter Tryz.func17, Tryz.ntmps17
 go_wp2
 go_region_o
 all_goals (go_wp2; go_ret; exact ⟨rfl, rfl⟩)
end Go.Proofs
