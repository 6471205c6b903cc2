/- The condition on the listed variables, and the world's shape, give what the walks lean on. -/
import Derived.Test.YthfkoeoaehkoaaaGreatDoorMS10
import Derived.Test.YthfkoeoaehkoaaaGreatDoorVx
import Derived.Test.YthfkoeoaehkoaaaGreatDoorRows
import Derived.Lib.LaidTab
import Derived.Stop.LaidErr
import Derived.Shelf.Vars
import Derived.MakeChecks
import Derived.LaidMore
import Derived.LaidHandle
import Derived.Lay
namespace Go.V
open Go.Proofs Go.Proofs.YthfkoeoaehkoaaaGreatDoor Go.ChangeShapes
set_option linter.unusedSimpArgs false
set_option linter.unnecessarySimpa false
set_option linter.unusedVariables false
set_option maxRecDepth 100000
theorem gMax : Tryz.prog.globalNamed "internal/bytealg.MaxLen" = some 1 := by kernel_rfl
theorem gPow : Tryz.prog.globalNamed "internal/strconv.uint64pow10" = some 0 := by kernel_rfl
theorem gSyn : Tryz.prog.globalNamed "strconv.ErrSyntax" = some 2 := by kernel_rfl
theorem gRng : Tryz.prog.globalNamed "strconv.ErrRange" = some 3 := by kernel_rfl
theorem head_iface {P : Program} {n nm : String} {d : DataW Unit} {r : List (String × DataW Unit)} {W : World} {g : Nat} {ti : TypeId} {ms : Array (String × TypeId)}
  (h : laidMet P ((n, .iface nm d) :: r) W) (hg : P.globalNamed n = some g) (ht : (P.globals[g]?).map (·.type) = some ti) (hi : P.underlying ti = some (.interface ms)) :
  ∃ tp p, W.var? P n = some #[.iface tp p] := by
 obtain ⟨ps, ⟨g0, t0, cs0, f0, p0, q0, hg0, ht0, hv0, hd0, _, e0⟩, _, hrows⟩ := h
 obtain rfl := Option.some.inj (hg.symm.trans hg0)
 obtain rfl := Option.some.inj (ht.symm.trans ht0)
 obtain ⟨l0⟩ := cs0
 obtain ⟨f1, u, v, rfl, hn, h1⟩ := iface_of_trod hi hd0
 exact ⟨u, v, hv0⟩
theorem gl_of_laid {W : World} (h : laidMetH Tryz.prog Rows.shellParsesRow.laid W) (hsh : W.ShapedOpen Tryz.prog) : Gl Tryz.prog (E0 W) := by
 rw [MakeChecks.laidMetH_plain _ _ _ (by kernel_rfl)] at h
 have h3 : laidMet Tryz.prog (("internal/strconv.uint64pow10", Lib.tabData .u64 ((List.range 20).map fun i => (10 : Int) ^ i)) :: [("unicode/utf8.acceptRanges", Rows.laid_unicode_utf8_acceptRanges), ("strconv.ErrRange", Rows.laid_strconv_ErrRange), ("strconv.ErrSyntax", Rows.laid_strconv_ErrSyntax), ("unicode/utf8.first", Rows.laid_unicode_utf8_first)]) W := h.tail.tail
 have hpow := Lib.tabIs_of_head gPow (t := 400) (e := 24) (n := 20) (by kernel_rfl) (by kernel_rfl) (by kernel_rfl) (by kernel_rfl) (by kernel_rfl) h3
 obtain ⟨t1, p1, hr⟩ := head_iface (ti := 134) h3.tail.tail gRng (by kernel_rfl) Tryz.underlying134
 obtain ⟨t2, p2, hs⟩ := head_iface (ti := 134) h3.tail.tail.tail gSyn (by kernel_rfl) Tryz.underlying134
 obtain ⟨m, hm⟩ := cell_of_shapedOpen_int (P := Tryz.prog) (g := 1) (t := 3) (zero := #[.int .i64 0]) hsh (of_decide_eq_true (by kernel_rfl)) (by kernel_rfl) rfl (by kernel_rfl) (by kernel_rfl) (by kernel_rfl)
 have hlt : ∀ {n g cs}, Tryz.prog.globalNamed n = some g → W.var? Tryz.prog n = some cs → g < W.heap.size := by
  intro n g cs hg hv
  unfold World.var? at hv
  rw [hg] at hv
  rcases Nat.lt_or_ge g W.heap.size with h' | h'
  ·exact h'
  ·simp [Array.getElem?_eq_none h'] at hv
 intro _ n hn g hg
 simp only [gnames, List.mem_cons, List.not_mem_nil, or_false] at hn
 rcases hn with rfl | rfl | rfl | rfl
 ·exact ⟨hlt hg hs, _, hs, fun _ => ⟨_, _, rfl⟩, by simp, by simp, by simp⟩
 ·exact ⟨hlt hg hr, _, hr, by simp, fun _ => ⟨_, _, rfl⟩, by simp, by simp⟩
 ·obtain ⟨cs, hc, hz, _⟩ := hsh.1 1 #[.int .i64 0] 3 (of_decide_eq_true (by kernel_rfl)) (by kernel_rfl)
  obtain ⟨l⟩ := cs
  match l, hz with
  | [c], _ =>
   have hv : W.var? Tryz.prog "internal/bytealg.MaxLen" = some #[c] := by
    unfold World.var?
    rw [gMax]
    simp [hc]
   have e : c = .int .i64 m := by
    simp [World.cell?, hc] at hm
    exact hm
   subst e
   exact ⟨hlt hg hv, _, hv, by simp, by simp, fun _ => ⟨m, rfl⟩, by simp⟩
 ·refine ⟨hlt hg hpow, _, hpow, by simp, by simp, by simp, fun _ => ?_⟩
  rw [List.map_map]
  rfl
theorem door_met (os : Os) (args : Array Value) : laidMetH Tryz.prog Rows.shellParsesRow.laid ((World.laidAll Tryz.prog os Rows.shellParsesRow.laid).forCall (fun _ _ => 0) ⟨#[], args, []⟩).memory := by
 rw [MakeChecks.laidMetH_plain _ _ _ (by kernel_rfl)]
 exact laidMet_laidAll _ (by kernel_rfl) (by kernel_rfl)
end Go.V
