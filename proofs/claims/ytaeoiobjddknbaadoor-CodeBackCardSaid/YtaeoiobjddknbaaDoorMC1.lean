/- The condition on the listed variables, and the world's shape, give what the walks lean on. -/
import Derived.Test.YtaeoiobjddknbaaDoorMS4
import Derived.Test.YtaeoiobjddknbaaDoorVx
import Derived.Test.YtaeoiobjddknbaaDoorRows
import Derived.Lib.LaidTab
import Derived.Stop.LaidErr
import Derived.Shelf.Vars
import Derived.MakeChecks
import Derived.LaidMore
import Derived.LaidHandle
import Derived.Test.YtaeoiobjddknbaaDoorMA63
namespace Go.V
open Go.Proofs Go.Proofs.YtaeoiobjddknbaaDoor Go.ChangeShapes
set_option linter.unusedSimpArgs false
set_option linter.unnecessarySimpa false
set_option linter.unusedVariables false
set_option maxRecDepth 100000
theorem gMax : Tryd.prog.globalNamed "internal/bytealg.MaxLen" = some 0 := by kernel_rfl
theorem gPow : Tryd.prog.globalNamed "internal/strconv.uint64pow10" = some 1 := by kernel_rfl
theorem gSyn : Tryd.prog.globalNamed "strconv.ErrSyntax" = some 2 := by kernel_rfl
theorem gRng : Tryd.prog.globalNamed "strconv.ErrRange" = some 3 := by kernel_rfl
theorem head_iface {P : Program} {n nm : String} {d : DataW Unit} {r : List (String × DataW Unit)} {W : World} {g : Nat} {ti : TypeId} {ms : Array (String × TypeId)}
  (h : laidMet P ((n, .iface nm d) :: r) W) (hg : P.globalNamed n = some g) (ht : (P.globals[g]?).map (·.type) = some ti) (hi : P.underlying ti = some (.interface ms)) :
  ∃ tp p, W.var? P n = some #[.iface tp p] := by
 obtain ⟨ps, ⟨g0, t0, cs0, f0, p0, q0, hg0, ht0, hv0, hd0, _, e0⟩, _, hrows⟩ := h
 obtain rfl := Option.some.inj (hg.symm.trans hg0)
 obtain rfl := Option.some.inj (ht.symm.trans ht0)
 obtain ⟨l0⟩ := cs0
 obtain ⟨f1, u, v, rfl, hn, h1⟩ := iface_of_trod hi hd0
 exact ⟨u, v, hv0⟩
theorem gl_of_laid {W : World} (h : laidMetH Tryd.prog Rows.codeParsesRow.laid W) (hsh : W.ShapedOpen Tryd.prog) : Gl Tryd.prog (E0 W) := by
 rw [MakeChecks.laidMetH_plain _ _ _ (by kernel_rfl)] at h
 have h3 : laidMet Tryd.prog (("internal/strconv.uint64pow10", Lib.tabData .u64 ((List.range 20).map fun i => (10 : Int) ^ i)) :: [("strconv.ErrRange", Rows.laid_strconv_ErrRange), ("strconv.ErrSyntax", Rows.laid_strconv_ErrSyntax)]) W := h.tail.tail
 have hpow := Lib.tabIs_of_head gPow (t := 135) (e := 90) (n := 20) (by kernel_rfl) (by kernel_rfl) (by kernel_rfl) (by kernel_rfl) (by kernel_rfl) h3
 obtain ⟨t1, p1, hr⟩ := head_iface (ti := 73) h3.tail gRng (by kernel_rfl) Tryd.underlying73
 obtain ⟨t2, p2, hs⟩ := head_iface (ti := 73) h3.tail.tail gSyn (by kernel_rfl) Tryd.underlying73
 obtain ⟨m, hm⟩ := cell_of_shapedOpen_int (P := Tryd.prog) (g := 0) (t := 3) (zero := #[.int .i64 0]) hsh (of_decide_eq_true (by kernel_rfl)) (by kernel_rfl) rfl (by kernel_rfl) (by kernel_rfl) (by kernel_rfl)
 have hlt : ∀ {n g cs}, Tryd.prog.globalNamed n = some g → W.var? Tryd.prog n = some cs → g < W.heap.size := by
  intro n g cs hg hv
  unfold World.var? at hv
  rw [hg] at hv
  rcases Nat.lt_or_ge g W.heap.size with h' | h'
  ·exact h'
  ·simp [Array.getElem?_eq_none h'] at hv
 intro n hn g hg
 simp only [gnames, List.mem_cons, List.not_mem_nil, or_false] at hn
 rcases hn with rfl | rfl | rfl | rfl
 ·exact ⟨hlt hg hs, _, hs, fun _ => ⟨_, _, rfl⟩, by simp, by simp, by simp⟩
 ·exact ⟨hlt hg hr, _, hr, by simp, fun _ => ⟨_, _, rfl⟩, by simp, by simp⟩
 ·obtain ⟨cs, hc, hz, _⟩ := hsh.1 0 #[.int .i64 0] 3 (of_decide_eq_true (by kernel_rfl)) (by kernel_rfl)
  obtain ⟨l⟩ := cs
  match l, hz with
  | [c], _ =>
   have hv : W.var? Tryd.prog "internal/bytealg.MaxLen" = some #[c] := by
    unfold World.var?
    rw [gMax]
    simp [hc]
   have e : c = .int .i64 m := by
    simp [World.cell?, hc] at hm
    exact hm
   subst e
   exact ⟨hlt hg hv, _, hv, by simp, by simp, fun _ => ⟨m, rfl⟩, by simp⟩
 ·refine ⟨hlt hg hpow, _, hpow, by simp, by simp, by simp, fun _ => ?_⟩
  rw [List.map_map]
  rfl
theorem door_met (os : Os) (args : Array Value) : laidMetH Tryd.prog Rows.codeParsesRow.laid ((World.doorLaid Tryd.prog 62 os).forCall (fun _ _ => 0) ⟨#[], args, []⟩).memory :=
 laidMetH_of_parts3 (fuel := 8) (laidMet_of_run' 8 (by kernel_rfl) (by kernel_rfl)) (by kernel_rfl) (by kernel_rfl)
end Go.V
namespace Go.V
open Go.Proofs
set_option maxRecDepth 100000
set_option maxHeartbeats 8000000
set_option linter.unusedSimpArgs false
set_option linter.unnecessarySimpa false
set_option linter.unusedVariables false
theorem rdL_in {w : World} {F : Nat → Prop} {k k' : IntKind} : ∀ (xs : List (Int × Int)) (cs : List Value), rdL (rd w F (.pair (.int k) (.int k'))) xs cs → ∀ x ∈ xs, inR k x.1 ∧ inR k' x.2
 | [], _, _, x, hx => by cases hx
 | y :: ys, cs, h, x, hx => by
  obtain ⟨c1, c2, rfl, h1, h2⟩ := h
  rcases List.mem_cons.1 hx with rfl | hx'
  ·obtain ⟨d1, d2, _, a, b⟩ := h1
   exact ⟨a.2, b.2⟩
  ·exact rdL_in ys c2 h2 x hx'
theorem slp_in {E : En} {p : Bool} {eb : Nat} {k k' : IntKind} {xs : List (Int × Int)} {v : Value} (h : den E (.sl p eb (.pair (.int k) (.int k')) xs) v) : ∀ x ∈ xs, inR k x.1 ∧ inR k' x.2 := by
 simp only [den, slv] at h
 rcases h with ⟨rfl, _⟩ | ⟨_, _, _, _, _, _, cs, _, _, _, _, _, _, _, h⟩
 ·intro x hx; cases hx
 ·exact rdL_in xs cs h
theorem agg2_in {E : En} {x : SV} {p : Bool} {xs : List EvT.den} {v : Value} (hx : x.isArr = false) (h : den E (.agg [x, .sl p 16 EvT xs]) v) : ∀ x ∈ xs, inR .i64 x.2 := by
 simp only [den] at h
 obtain ⟨cs, rfl, h⟩ := h
 rw [denC_cons hx] at h
 obtain ⟨v1, c2, e1, d1, h⟩ := h
 rw [denC_cons (by rfl)] at h
 obtain ⟨v2, c3, e2, d2, h⟩ := h
 exact fun x hx => (slp_in d2 x hx).2
theorem use31 {s : ByteArray} {K : SV → List SB → Prop} (hs : s.size ≤ 100000) (h : K (.str (hexB s)) []) : C31 [.str s] [] K := ⟨hs, h⟩
theorem use33 {n : Int} {K : SV → List SB → Prop} (hn : inR .i64 n) (h : K (.str (itoaB n)) []) : C33 [.int .i64 n, .int .i64 10] [] K := by
 have hmx := maxLen_val
 have := itoa_len hn
 exact ⟨by unfold itoaB; rw [bsOf_size]; omega, h⟩
theorem use32x {op : Int} {K : SV → List SB → Prop} (hop : 0 ≤ op ∧ op < 24) (h : K (.tup [.str (wordB op.toNat), .int .i64 (opK op), .bool true]) []) : C32 [.int .i64 op] [] K := ⟨fun h' => absurd hop h', fun _ => h⟩
theorem elt_mem {t : Ty} {l : List t.den} {i : Nat} (h : i < l.length) : elt t l i ∈ l := List.mem_of_getElem? (elt_get h)
theorem key_size {s : ByteArray} (h : keyOk s = true) : s.size ≤ 40 := by
 simp only [keyOk, Bool.and_eq_true, decide_eq_true_eq] at h
 exact h.2
theorem ins_in {n c : Nat} {x : Int × Int} (h : insOk n c x = true) : (0 ≤ x.1 ∧ x.1 < 24) ∧ x.1.toNat < 24 := by
 simp only [insOk, Bool.and_eq_true, decide_eq_true_eq] at h
 have h2 : (0 : Int) ≤ x.1 ∧ x.1 < (24 : Int) := h.1
 exact ⟨h2, by omega⟩
theorem bS_row {l m : List UInt8} (h : l = m) (hm : m ≠ []) : bS l = [.struct [.ptr 0 0, .own 1], .row true 1 .byte m] := by
 subst h
 cases l with
 | nil => exact absurd rfl hm
 | cons x r => rfl
theorem bs_app (a b : ByteArray) : (a ++ b).data.toList = a.data.toList ++ b.data.toList := by
 rw [ByteArray.data_append, Array.toList_append]
theorem nm_bytes {n u v : ByteArray} (hu : u = ⟨#[110, 97, 109, 101, 32]⟩ ++ hexB n) (hv : v = u ++ ⟨#[10]⟩) : v.data.toList = nmL n := by
 rw [hv, hu, bs_app, bs_app, List.append_assoc]
 rfl
theorem ln_bytes {n : Int} {u : ByteArray} (hu : u = ⟨#[32]⟩ ++ itoaB n) : u.data.toList = 32 :: Lib.itoa n := by
 rw [hu, bs_app]
 rfl
theorem hexB_size (n : ByteArray) : (hexB n).size = 2 * n.size := by
 unfold hexB
 rw [bsOf_size, hexL_len, size_L]
def bS1 (l : List UInt8) : List SB := match l with
 | [] => [.struct [.nilp, .nils]]
 | x :: r => [.struct [.ptr 1 0, .own 2], .row true 1 .byte (x :: r)]
theorem bS1_nil : bS1 [] = [.struct [.nilp, .nils]] := rfl
theorem bS1_cons {x : UInt8} {r : List UInt8} : bS1 (x :: r) = [.struct [.ptr 1 0, .own 2], .row true 1 .byte (x :: r)] := rfl
def C14a : Contract := fun args hp K => match args, hp with
 | [.agg [.sl true 16 .str ns, .sl true 16 (.pair (.int .i64) (.int .i64)) cs]], [] => (∀ x ∈ (cs : List EvT.den), inR .i64 x.2) ∧ (formP ns cs = false → K (.tup [.str ByteArray.empty, .int .i64 1]) []) ∧ (formP ns cs = true → K (.tup [.str (bsOf (printL ns cs)), .int .i64 0]) [])
 | _, _ => False
def L14 (ns : List ByteArray) (cs : List EvT.den) : LoopAnn := cntA (fun i => ⟨[(1, .ptr 0 0), (4, .pty 1 71), (16, .sl true 16 .str ns), (17, .int .i64 ns.length), (18, .int .i64 i)], .struct [.sl true 16 .str ns, .sl true 16 EvT cs] :: bS1 (prN (ns.take i))⟩) ns.length
def M14 (ns : List ByteArray) (cs : List EvT.den) : LoopAnn := cntA (fun i => ⟨[(4, .pty 0 71), (29, .sl true 16 EvT cs), (30, .int .i64 cs.length), (31, .int .i64 i)], bS (prN ns ++ prC (cs.take i))⟩) cs.length
attribute [local irreducible] rc
theorem s14a : Sound Tryd.prog 14 C14a := by
 refine sound_of_okF ok14 (.cons s17 (callable_of_okF ok17) (.cons s31 (callable_of_okF ok31) (.cons s30 (callable_of_okF ok30) (.cons s32 (callable_of_okF ok32) (.cons s33 ⟨_, Tryd.func33, rfl, by decide⟩ (.cons s34 ⟨_, Tryd.func34, rfl, by decide⟩ .nil)))))) ?_
 intro args hp K h
 unfold C14a at h
 split at h
 ·rename_i ns cs
  obtain ⟨hr, hF, hT⟩ := h
  have hmx := maxLen_val
  refine ⟨by simp, [(1, L14 ns cs), (2, M14 ns cs)], ?_⟩
  simp (maxSteps:=9^9) only [a14, r14, go_sem, Int.reduceLT, Int.reduceLE, Int.reduceEq, Int.reduceNe, Int.reduceAdd, Int.reduceSub, Int.reduceMul, Int.reduceToNat, Int.reduceNeg, Nat.reduceEqDiff, Nat.reduceLeDiff, Nat.reduceSub, Nat.reduceMul, Nat.reduceLT, Nat.reduceBEq, Nat.reduceAdd]
  refine use17 ?_
  cases hf : formP ns cs with
  | false =>
   simp (maxSteps:=9^9) only [go_sem, Int.reduceLT, Int.reduceLE, Int.reduceEq, Int.reduceNe, Int.reduceAdd, Int.reduceSub, Int.reduceMul, Int.reduceToNat, Int.reduceNeg, Nat.reduceEqDiff, Nat.reduceLeDiff, Nat.reduceSub, Nat.reduceMul, Nat.reduceLT, Nat.reduceBEq, Nat.reduceAdd]
   exact hF hf
  | true =>
   have hT := hT hf
   obtain ⟨⟨hn1, hn2⟩, hk, hi2⟩ := formP_iff.1 hf
   simp (maxSteps:=9^9) only [go_sem, Int.reduceLT, Int.reduceLE, Int.reduceEq, Int.reduceNe, Int.reduceAdd, Int.reduceSub, Int.reduceMul, Int.reduceToNat, Int.reduceNeg, Nat.reduceEqDiff, Nat.reduceLeDiff, Nat.reduceSub, Nat.reduceMul, Nat.reduceLT, Nat.reduceBEq, Nat.reduceAdd]
   rintro _ _ m rfl
   refine loop_intro (A := L14 ns cs) (0 : Nat) ?_ (Nat.zero_le _) ?_
   ·simp (maxSteps:=9^9) only [go_sem, Int.reduceLT, Int.reduceLE, Int.reduceEq, Int.reduceNe, Int.reduceAdd, Int.reduceSub, Int.reduceMul, Int.reduceToNat, Int.reduceNeg, Nat.reduceEqDiff, Nat.reduceLeDiff, Nat.reduceSub, Nat.reduceMul, Nat.reduceLT, Nat.reduceBEq, Nat.reduceAdd]
    rfl
   ·intro (i : Nat) (hi : i ≤ ns.length)
    rcases Nat.eq_zero_or_pos i with rfl | hpos
    ·unfold L14
     simp (maxSteps:=9^9) only [cntA_I, List.take_zero, prN_nil, bS1_nil, go_sem, Int.reduceLT, Int.reduceLE, Int.reduceEq, Int.reduceNe, Int.reduceAdd, Int.reduceSub, Int.reduceMul, Int.reduceToNat, Int.reduceNeg, Nat.reduceEqDiff, Nat.reduceLeDiff, Nat.reduceSub, Nat.reduceMul, Nat.reduceLT, Nat.reduceBEq, Nat.reduceAdd]
     intro c hc
     refine swd hc (fun h0 => ?_) (fun h0 => ?_)
     ·have h0 : 0 < ns.length := by omega
      refine nd_intro (by omega) ?_
      have hk0 := List.all_eq_true.1 hk (elt .str ns 0) (elt_mem (t := .str) h0)
      have hkz := key_size hk0
      have hhz := hexB_size (elt .str ns 0)
      refine use31 (by omega) ?_
      simp (maxSteps:=9^9) only [C30, go_sem, Int.reduceLT, Int.reduceLE, Int.reduceEq, Int.reduceNe, Int.reduceAdd, Int.reduceSub, Int.reduceMul, Int.reduceToNat, Int.reduceNeg, Nat.reduceEqDiff, Nat.reduceLeDiff, Nat.reduceSub, Nat.reduceMul, Nat.reduceLT, Nat.reduceBEq, Nat.reduceAdd]
      refine ⟨by show 5 + _ ≤ _; omega, ?_⟩
      intro u hu
      have huz : u.size = 5 + (hexB (elt .str ns 0)).size := by rw [hu, ByteArray.size_append]; rfl
      refine ⟨by show _ + 1 ≤ _; omega, ?_⟩
      intro u2 hu2
      have hb := nm_bytes hu hu2
      have hn := nmL_len hk0
      have huz2 := size_L u2
      rw [hb] at huz2
      refine ⟨by omega, ?_⟩
      rintro _ _ m1 hm1
      rw [w64 (by omega)] at hm1
      refine cntA_next h0 ?_
      rw [hm1, hb]
      have e5 := prN_next h0
      rw [List.take_zero, prN_nil, List.nil_append] at e5
      rw [e5]
      rfl
     ·have hlast : ns = [] := List.eq_nil_of_length_eq_zero (by omega)
      rintro _ _ _ rfl
      refine loop_intro (A := M14 ns cs) (0 : Nat) ?_ (Nat.zero_le _) ?_
      ·simp (maxSteps:=9^9) only [go_sem, Int.reduceLT, Int.reduceLE, Int.reduceEq, Int.reduceNe, Int.reduceAdd, Int.reduceSub, Int.reduceMul, Int.reduceToNat, Int.reduceNeg, Nat.reduceEqDiff, Nat.reduceLeDiff, Nat.reduceSub, Nat.reduceMul, Nat.reduceLT, Nat.reduceBEq, Nat.reduceAdd]
       rw [hlast]
       rfl
      ·intro (j : Nat) (hj : j ≤ cs.length)
       have hlc : (prN ns ++ prC (cs.take j)).length ≤ 9000 := by
        have h1 := prN_len hk
        have h2 := prC_len (n := ns.length) (c := cs.length) (cs := cs.take j) (List.all_eq_true.2 fun x hx => List.all_eq_true.1 hi2 x (List.mem_of_mem_take hx)) (fun x hx => hr x (List.mem_of_mem_take hx))
        rw [List.length_take] at h2
        rw [List.length_append]
        omega
       cases hp : prN ns ++ prC (cs.take j) with
       | nil =>
        unfold M14
        simp (maxSteps:=9^9) only [cntA_I, hp, bS_nil, C34, go_sem, Int.reduceLT, Int.reduceLE, Int.reduceEq, Int.reduceNe, Int.reduceAdd, Int.reduceSub, Int.reduceMul, Int.reduceToNat, Int.reduceNeg, Nat.reduceEqDiff, Nat.reduceLeDiff, Nat.reduceSub, Nat.reduceMul, Nat.reduceLT, Nat.reduceBEq, Nat.reduceAdd]
        intro c hc
        refine swd hc (fun h0 => ?_) (fun h0 => ?_)
        ·have h0 : j < cs.length := by omega
         refine nd_intro (by omega) ?_
         obtain ⟨hop, hop2⟩ := ins_in (x := elt EvT cs j) (List.all_eq_true.1 hi2 _ (elt_mem (t := EvT) h0))
         have hr0 := hr _ (elt_mem (t := EvT) h0)
         have hwz : (wordB (elt EvT cs j).1.toNat).size ≤ 10 := by rw [size_L]; exact word_len _ hop2
         refine use32x hop ?_
         simp (maxSteps:=9^9) only [C30, go_sem, Int.reduceLT, Int.reduceLE, Int.reduceEq, Int.reduceNe, Int.reduceAdd, Int.reduceSub, Int.reduceMul, Int.reduceToNat, Int.reduceNeg, Nat.reduceEqDiff, Nat.reduceLeDiff, Nat.reduceSub, Nat.reduceMul, Nat.reduceLT, Nat.reduceBEq, Nat.reduceAdd]
         have e5 := prC_next h0
         have e6 : prN ns ++ prC (cs.take (j + 1)) = [] ++ lnL (elt EvT cs j) := by rw [e5, ← List.append_assoc, hp]
         have hwL : (wordB (elt EvT cs j).1.toNat).data.toList.length ≤ 10 := by rw [← size_L]; exact hwz
         refine ⟨by omega, ?_⟩
         intro c1 hc1
         refine swn hc1 (fun h1 => ?_) (fun h1 => ?_)
         ·refine use33 hr0 ?_
          simp (maxSteps:=9^9) only [C30, go_sem, Int.reduceLT, Int.reduceLE, Int.reduceEq, Int.reduceNe, Int.reduceAdd, Int.reduceSub, Int.reduceMul, Int.reduceToNat, Int.reduceNeg, Nat.reduceEqDiff, Nat.reduceLeDiff, Nat.reduceSub, Nat.reduceMul, Nat.reduceLT, Nat.reduceBEq, Nat.reduceAdd]
          have hil := itoa_len hr0
          have hiz : (itoaB (elt EvT cs j).2).size = (Lib.itoa (elt EvT cs j).2).length := bsOf_size _
          refine ⟨by show 1 + _ ≤ _; omega, ?_⟩
          intro u hu
          have hub := ln_bytes hu
          have huz := size_L u
          rw [hub, List.length_cons] at huz
          refine ⟨⟨by (try simp only [List.length_append]); omega, by omega⟩, ⟨by simp only [List.length_append, ← size_L]; omega, by show 1 ≤ _; omega⟩, ?_⟩
          rintro _ _ m1 hm1
          rw [w64 (by omega)] at hm1
          refine cntA_next h0 ?_
          rw [hm1, hub]
          have e7 : argL (elt EvT cs j) = 32 :: Lib.itoa (elt EvT cs j).2 := if_neg h1
          show _ = SS.mk _ (bS (prN ns ++ prC (cs.take (j + 1))))
          rw [bS_row (m := (wordB (elt EvT cs j).1.toNat).data.toList ++ (32 :: Lib.itoa (elt EvT cs j).2) ++ [10]) (by rw [e6]; unfold lnL; rw [e7]; unfold wordL; simp only [List.append_assoc, List.cons_append, List.nil_append]) (by simp)]
          rfl
         ·refine ⟨⟨by (try simp only [List.length_append]); omega, by show 1 ≤ _; omega⟩, ?_⟩
          rintro _ _ m1 hm1
          rw [w64 (by omega)] at hm1
          refine cntA_next h0 ?_
          rw [hm1]
          have e7 : argL (elt EvT cs j) = [] := if_pos h1
          show _ = SS.mk _ (bS (prN ns ++ prC (cs.take (j + 1))))
          rw [bS_row (m := (wordB (elt EvT cs j).1.toNat).data.toList ++ [10]) (by rw [e6]; unfold lnL; rw [e7]; unfold wordL; simp only [List.append_assoc, List.cons_append, List.nil_append]) (by simp)]
          rfl
        ·have e8 : prN ns ++ prC cs = [] := by rw [← hp, List.take_of_length_le (by omega)]
         unfold printL at hT
         rw [e8] at hT
         exact hT
       | cons x r =>
        rw [hp, List.length_cons] at hlc
        unfold M14
        simp (maxSteps:=9^9) only [cntA_I, hp, bS_cons, C34, go_sem, Int.reduceLT, Int.reduceLE, Int.reduceEq, Int.reduceNe, Int.reduceAdd, Int.reduceSub, Int.reduceMul, Int.reduceToNat, Int.reduceNeg, Nat.reduceEqDiff, Nat.reduceLeDiff, Nat.reduceSub, Nat.reduceMul, Nat.reduceLT, Nat.reduceBEq, Nat.reduceAdd]
        intro c hc
        refine swd hc (fun h0 => ?_) (fun h0 => ?_)
        ·have h0 : j < cs.length := by omega
         refine nd_intro (by omega) ?_
         obtain ⟨hop, hop2⟩ := ins_in (x := elt EvT cs j) (List.all_eq_true.1 hi2 _ (elt_mem (t := EvT) h0))
         have hr0 := hr _ (elt_mem (t := EvT) h0)
         have hwz : (wordB (elt EvT cs j).1.toNat).size ≤ 10 := by rw [size_L]; exact word_len _ hop2
         refine use32x hop ?_
         simp (maxSteps:=9^9) only [C30, go_sem, Int.reduceLT, Int.reduceLE, Int.reduceEq, Int.reduceNe, Int.reduceAdd, Int.reduceSub, Int.reduceMul, Int.reduceToNat, Int.reduceNeg, Nat.reduceEqDiff, Nat.reduceLeDiff, Nat.reduceSub, Nat.reduceMul, Nat.reduceLT, Nat.reduceBEq, Nat.reduceAdd]
         have e5 := prC_next h0
         have e6 : prN ns ++ prC (cs.take (j + 1)) = (x :: r) ++ lnL (elt EvT cs j) := by rw [e5, ← List.append_assoc, hp]
         have hwL : (wordB (elt EvT cs j).1.toNat).data.toList.length ≤ 10 := by rw [← size_L]; exact hwz
         refine ⟨⟨by omega, by omega⟩, ?_⟩
         intro c1 hc1
         refine swn hc1 (fun h1 => ?_) (fun h1 => ?_)
         ·refine use33 hr0 ?_
          simp (maxSteps:=9^9) only [C30, go_sem, Int.reduceLT, Int.reduceLE, Int.reduceEq, Int.reduceNe, Int.reduceAdd, Int.reduceSub, Int.reduceMul, Int.reduceToNat, Int.reduceNeg, Nat.reduceEqDiff, Nat.reduceLeDiff, Nat.reduceSub, Nat.reduceMul, Nat.reduceLT, Nat.reduceBEq, Nat.reduceAdd]
          have hil := itoa_len hr0
          have hiz : (itoaB (elt EvT cs j).2).size = (Lib.itoa (elt EvT cs j).2).length := bsOf_size _
          refine ⟨by show 1 + _ ≤ _; omega, ?_⟩
          intro u hu
          have hub := ln_bytes hu
          have huz := size_L u
          rw [hub, List.length_cons] at huz
          refine ⟨⟨by (try simp only [List.length_append]); omega, by omega⟩, ⟨by simp only [List.length_append, ← size_L]; omega, by show 1 ≤ _; omega⟩, ?_⟩
          rintro _ _ m1 hm1
          rw [w64 (by omega)] at hm1
          refine cntA_next h0 ?_
          rw [hm1, hub]
          have e7 : argL (elt EvT cs j) = 32 :: Lib.itoa (elt EvT cs j).2 := if_neg h1
          show _ = SS.mk _ (bS (prN ns ++ prC (cs.take (j + 1))))
          rw [bS_row (m := x :: (r ++ (wordB (elt EvT cs j).1.toNat).data.toList ++ (32 :: Lib.itoa (elt EvT cs j).2) ++ [10])) (by rw [e6]; unfold lnL; rw [e7]; unfold wordL; simp only [List.append_assoc, List.cons_append, List.nil_append]) (by simp)]
          rfl
         ·refine ⟨⟨by (try simp only [List.length_append]); omega, by show 1 ≤ _; omega⟩, ?_⟩
          rintro _ _ m1 hm1
          rw [w64 (by omega)] at hm1
          refine cntA_next h0 ?_
          rw [hm1]
          have e7 : argL (elt EvT cs j) = [] := if_pos h1
          show _ = SS.mk _ (bS (prN ns ++ prC (cs.take (j + 1))))
          rw [bS_row (m := x :: (r ++ (wordB (elt EvT cs j).1.toNat).data.toList ++ [10])) (by rw [e6]; unfold lnL; rw [e7]; unfold wordL; simp only [List.append_assoc, List.cons_append, List.nil_append]) (by simp)]
          rfl
        ·have e8 : prN ns ++ prC cs = x :: r := by rw [← hp, List.take_of_length_le (by omega)]
         unfold printL at hT
         rw [e8] at hT
         exact ⟨⟨by simp, by omega⟩, hT⟩
    ·obtain ⟨x, r, e⟩ : ∃ x r, prN (ns.take i) = x :: r := by
      obtain ⟨j, rfl⟩ : ∃ j, i = j + 1 := ⟨i - 1, by omega⟩
      rw [prN_next (by omega)]
      cases prN (ns.take j) with
      | nil => exact ⟨_, _, rfl⟩
      | cons x r => exact ⟨x, _, rfl⟩
     have hlen : (x :: r).length ≤ 9000 := by
      rw [← e]
      have h1 := prN_len (ns := ns.take i) (List.all_eq_true.2 fun x hx => List.all_eq_true.1 hk x (List.mem_of_mem_take hx))
      rw [List.length_take] at h1
      omega
     unfold L14
     simp (maxSteps:=9^9) only [cntA_I, e, bS1_cons, go_sem, Int.reduceLT, Int.reduceLE, Int.reduceEq, Int.reduceNe, Int.reduceAdd, Int.reduceSub, Int.reduceMul, Int.reduceToNat, Int.reduceNeg, Nat.reduceEqDiff, Nat.reduceLeDiff, Nat.reduceSub, Nat.reduceMul, Nat.reduceLT, Nat.reduceBEq, Nat.reduceAdd]
     intro c hc
     refine swd hc (fun h0 => ?_) (fun h0 => ?_)
     ·have h0 : i < ns.length := by omega
      refine nd_intro (by omega) ?_
      have hk0 := List.all_eq_true.1 hk (elt .str ns i) (elt_mem (t := .str) h0)
      have hkz := key_size hk0
      have hhz := hexB_size (elt .str ns i)
      refine use31 (by omega) ?_
      simp (maxSteps:=9^9) only [C30, go_sem, Int.reduceLT, Int.reduceLE, Int.reduceEq, Int.reduceNe, Int.reduceAdd, Int.reduceSub, Int.reduceMul, Int.reduceToNat, Int.reduceNeg, Nat.reduceEqDiff, Nat.reduceLeDiff, Nat.reduceSub, Nat.reduceMul, Nat.reduceLT, Nat.reduceBEq, Nat.reduceAdd]
      refine ⟨by show 5 + _ ≤ _; omega, ?_⟩
      intro u hu
      have huz : u.size = 5 + (hexB (elt .str ns i)).size := by rw [hu, ByteArray.size_append]; rfl
      refine ⟨by show _ + 1 ≤ _; omega, ?_⟩
      intro u2 hu2
      have hb := nm_bytes hu hu2
      have hn := nmL_len hk0
      have huz2 := size_L u2
      rw [hb] at huz2
      refine ⟨by simp only [List.length_cons] at hlen; omega, ?_⟩
      rintro _ _ m1 hm1
      rw [w64 (by omega)] at hm1
      refine cntA_next h0 ?_
      rw [hm1, hb]
      have e5 := prN_next h0
      rw [e] at e5
      rw [e5]
      rfl
     ·have hlast : ns.take i = ns := List.take_of_length_le (by omega)
      rintro _ _ _ rfl
      refine loop_intro (A := M14 ns cs) (0 : Nat) ?_ (Nat.zero_le _) ?_
      ·simp (maxSteps:=9^9) only [go_sem, Int.reduceLT, Int.reduceLE, Int.reduceEq, Int.reduceNe, Int.reduceAdd, Int.reduceSub, Int.reduceMul, Int.reduceToNat, Int.reduceNeg, Nat.reduceEqDiff, Nat.reduceLeDiff, Nat.reduceSub, Nat.reduceMul, Nat.reduceLT, Nat.reduceBEq, Nat.reduceAdd]
       have e9 : prN ns ++ prC (cs.take 0) = x :: r := by rw [hlast] at e; rw [← e, List.take_zero, prC_nil, List.append_nil]
       show _ = SS.mk _ (bS (prN ns ++ prC (cs.take 0)))
       rw [e9]
       rfl
      ·intro (j : Nat) (hj : j ≤ cs.length)
       have hlc : (prN ns ++ prC (cs.take j)).length ≤ 9000 := by
        have h1 := prN_len hk
        have h2 := prC_len (n := ns.length) (c := cs.length) (cs := cs.take j) (List.all_eq_true.2 fun x hx => List.all_eq_true.1 hi2 x (List.mem_of_mem_take hx)) (fun x hx => hr x (List.mem_of_mem_take hx))
        rw [List.length_take] at h2
        rw [List.length_append]
        omega
       cases hp : prN ns ++ prC (cs.take j) with
       | nil =>
        unfold M14
        simp (maxSteps:=9^9) only [cntA_I, hp, bS_nil, C34, go_sem, Int.reduceLT, Int.reduceLE, Int.reduceEq, Int.reduceNe, Int.reduceAdd, Int.reduceSub, Int.reduceMul, Int.reduceToNat, Int.reduceNeg, Nat.reduceEqDiff, Nat.reduceLeDiff, Nat.reduceSub, Nat.reduceMul, Nat.reduceLT, Nat.reduceBEq, Nat.reduceAdd]
        intro c hc
        refine swd hc (fun h0 => ?_) (fun h0 => ?_)
        ·have h0 : j < cs.length := by omega
         refine nd_intro (by omega) ?_
         obtain ⟨hop, hop2⟩ := ins_in (x := elt EvT cs j) (List.all_eq_true.1 hi2 _ (elt_mem (t := EvT) h0))
         have hr0 := hr _ (elt_mem (t := EvT) h0)
         have hwz : (wordB (elt EvT cs j).1.toNat).size ≤ 10 := by rw [size_L]; exact word_len _ hop2
         refine use32x hop ?_
         simp (maxSteps:=9^9) only [C30, go_sem, Int.reduceLT, Int.reduceLE, Int.reduceEq, Int.reduceNe, Int.reduceAdd, Int.reduceSub, Int.reduceMul, Int.reduceToNat, Int.reduceNeg, Nat.reduceEqDiff, Nat.reduceLeDiff, Nat.reduceSub, Nat.reduceMul, Nat.reduceLT, Nat.reduceBEq, Nat.reduceAdd]
         have e5 := prC_next h0
         have e6 : prN ns ++ prC (cs.take (j + 1)) = [] ++ lnL (elt EvT cs j) := by rw [e5, ← List.append_assoc, hp]
         have hwL : (wordB (elt EvT cs j).1.toNat).data.toList.length ≤ 10 := by rw [← size_L]; exact hwz
         refine ⟨by omega, ?_⟩
         intro c1 hc1
         refine swn hc1 (fun h1 => ?_) (fun h1 => ?_)
         ·refine use33 hr0 ?_
          simp (maxSteps:=9^9) only [C30, go_sem, Int.reduceLT, Int.reduceLE, Int.reduceEq, Int.reduceNe, Int.reduceAdd, Int.reduceSub, Int.reduceMul, Int.reduceToNat, Int.reduceNeg, Nat.reduceEqDiff, Nat.reduceLeDiff, Nat.reduceSub, Nat.reduceMul, Nat.reduceLT, Nat.reduceBEq, Nat.reduceAdd]
          have hil := itoa_len hr0
          have hiz : (itoaB (elt EvT cs j).2).size = (Lib.itoa (elt EvT cs j).2).length := bsOf_size _
          refine ⟨by show 1 + _ ≤ _; omega, ?_⟩
          intro u hu
          have hub := ln_bytes hu
          have huz := size_L u
          rw [hub, List.length_cons] at huz
          refine ⟨⟨by (try simp only [List.length_append]); omega, by omega⟩, ⟨by simp only [List.length_append, ← size_L]; omega, by show 1 ≤ _; omega⟩, ?_⟩
          rintro _ _ m1 hm1
          rw [w64 (by omega)] at hm1
          refine cntA_next h0 ?_
          rw [hm1, hub]
          have e7 : argL (elt EvT cs j) = 32 :: Lib.itoa (elt EvT cs j).2 := if_neg h1
          show _ = SS.mk _ (bS (prN ns ++ prC (cs.take (j + 1))))
          rw [bS_row (m := (wordB (elt EvT cs j).1.toNat).data.toList ++ (32 :: Lib.itoa (elt EvT cs j).2) ++ [10]) (by rw [e6]; unfold lnL; rw [e7]; unfold wordL; simp only [List.append_assoc, List.cons_append, List.nil_append]) (by simp)]
          rfl
         ·refine ⟨⟨by (try simp only [List.length_append]); omega, by show 1 ≤ _; omega⟩, ?_⟩
          rintro _ _ m1 hm1
          rw [w64 (by omega)] at hm1
          refine cntA_next h0 ?_
          rw [hm1]
          have e7 : argL (elt EvT cs j) = [] := if_pos h1
          show _ = SS.mk _ (bS (prN ns ++ prC (cs.take (j + 1))))
          rw [bS_row (m := (wordB (elt EvT cs j).1.toNat).data.toList ++ [10]) (by rw [e6]; unfold lnL; rw [e7]; unfold wordL; simp only [List.append_assoc, List.cons_append, List.nil_append]) (by simp)]
          rfl
        ·have e8 : prN ns ++ prC cs = [] := by rw [← hp, List.take_of_length_le (by omega)]
         unfold printL at hT
         rw [e8] at hT
         exact hT
       | cons x r =>
        rw [hp, List.length_cons] at hlc
        unfold M14
        simp (maxSteps:=9^9) only [cntA_I, hp, bS_cons, C34, go_sem, Int.reduceLT, Int.reduceLE, Int.reduceEq, Int.reduceNe, Int.reduceAdd, Int.reduceSub, Int.reduceMul, Int.reduceToNat, Int.reduceNeg, Nat.reduceEqDiff, Nat.reduceLeDiff, Nat.reduceSub, Nat.reduceMul, Nat.reduceLT, Nat.reduceBEq, Nat.reduceAdd]
        intro c hc
        refine swd hc (fun h0 => ?_) (fun h0 => ?_)
        ·have h0 : j < cs.length := by omega
         refine nd_intro (by omega) ?_
         obtain ⟨hop, hop2⟩ := ins_in (x := elt EvT cs j) (List.all_eq_true.1 hi2 _ (elt_mem (t := EvT) h0))
         have hr0 := hr _ (elt_mem (t := EvT) h0)
         have hwz : (wordB (elt EvT cs j).1.toNat).size ≤ 10 := by rw [size_L]; exact word_len _ hop2
         refine use32x hop ?_
         simp (maxSteps:=9^9) only [C30, go_sem, Int.reduceLT, Int.reduceLE, Int.reduceEq, Int.reduceNe, Int.reduceAdd, Int.reduceSub, Int.reduceMul, Int.reduceToNat, Int.reduceNeg, Nat.reduceEqDiff, Nat.reduceLeDiff, Nat.reduceSub, Nat.reduceMul, Nat.reduceLT, Nat.reduceBEq, Nat.reduceAdd]
         have e5 := prC_next h0
         have e6 : prN ns ++ prC (cs.take (j + 1)) = (x :: r) ++ lnL (elt EvT cs j) := by rw [e5, ← List.append_assoc, hp]
         have hwL : (wordB (elt EvT cs j).1.toNat).data.toList.length ≤ 10 := by rw [← size_L]; exact hwz
         refine ⟨⟨by omega, by omega⟩, ?_⟩
         intro c1 hc1
         refine swn hc1 (fun h1 => ?_) (fun h1 => ?_)
         ·refine use33 hr0 ?_
          simp (maxSteps:=9^9) only [C30, go_sem, Int.reduceLT, Int.reduceLE, Int.reduceEq, Int.reduceNe, Int.reduceAdd, Int.reduceSub, Int.reduceMul, Int.reduceToNat, Int.reduceNeg, Nat.reduceEqDiff, Nat.reduceLeDiff, Nat.reduceSub, Nat.reduceMul, Nat.reduceLT, Nat.reduceBEq, Nat.reduceAdd]
          have hil := itoa_len hr0
          have hiz : (itoaB (elt EvT cs j).2).size = (Lib.itoa (elt EvT cs j).2).length := bsOf_size _
          refine ⟨by show 1 + _ ≤ _; omega, ?_⟩
          intro u hu
          have hub := ln_bytes hu
          have huz := size_L u
          rw [hub, List.length_cons] at huz
          refine ⟨⟨by (try simp only [List.length_append]); omega, by omega⟩, ⟨by simp only [List.length_append, ← size_L]; omega, by show 1 ≤ _; omega⟩, ?_⟩
          rintro _ _ m1 hm1
          rw [w64 (by omega)] at hm1
          refine cntA_next h0 ?_
          rw [hm1, hub]
          have e7 : argL (elt EvT cs j) = 32 :: Lib.itoa (elt EvT cs j).2 := if_neg h1
          show _ = SS.mk _ (bS (prN ns ++ prC (cs.take (j + 1))))
          rw [bS_row (m := x :: (r ++ (wordB (elt EvT cs j).1.toNat).data.toList ++ (32 :: Lib.itoa (elt EvT cs j).2) ++ [10])) (by rw [e6]; unfold lnL; rw [e7]; unfold wordL; simp only [List.append_assoc, List.cons_append, List.nil_append]) (by simp)]
          rfl
         ·refine ⟨⟨by (try simp only [List.length_append]); omega, by show 1 ≤ _; omega⟩, ?_⟩
          rintro _ _ m1 hm1
          rw [w64 (by omega)] at hm1
          refine cntA_next h0 ?_
          rw [hm1]
          have e7 : argL (elt EvT cs j) = [] := if_pos h1
          show _ = SS.mk _ (bS (prN ns ++ prC (cs.take (j + 1))))
          rw [bS_row (m := x :: (r ++ (wordB (elt EvT cs j).1.toNat).data.toList ++ [10])) (by rw [e6]; unfold lnL; rw [e7]; unfold wordL; simp only [List.append_assoc, List.cons_append, List.nil_append]) (by simp)]
          rfl
        ·have e8 : prN ns ++ prC cs = x :: r := by rw [← hp, List.take_of_length_le (by omega)]
         unfold printL at hT
         rw [e8] at hT
         exact ⟨⟨by simp, by omega⟩, hT⟩
 ·exact h.elim
end Go.V
namespace Go.V
open Go.Proofs
set_option maxRecDepth 100000
set_option maxHeartbeats 8000000
set_option linter.unusedSimpArgs false
set_option linter.unnecessarySimpa false
set_option linter.unusedVariables false
theorem bL (l : List UInt8) : (bsOf l).data.toList = l := by simp [bsOf]
def prOut (K : SV → List SB → Prop) (ns : List ByteArray) (cs : List EvT.den) : Prop := (formP ns cs = false → K (.tup [.str ByteArray.empty, .int .i64 1]) []) ∧ (formP ns cs = true → K (.tup [.str (bsOf (printL ns cs)), .int .i64 0]) [])
def C14 : Contract := fun args hp K => match args, hp with
 | [.agg [.sl true 16 .str ns, .sl true 16 (.pair (.int .i64) (.int .i64)) cs]], [] => prOut K ns cs
 | _, _ => False
theorem s14 : Sound Tryd.prog 14 C14 := by
 intro args hp K h E vs hs hg hd
 unfold C14 at h
 split at h
 ·rename_i ns cs
  have hr : ∀ x ∈ cs, inR .i64 x.2 := by
   simp only [denL] at hd
   obtain ⟨v, r, rfl, h1, rfl⟩ := hd
   exact agg2_in rfl h1
  exact s14a [.agg [.sl true 16 .str ns, .sl true 16 EvT cs]] [] K ⟨hr, h⟩ E vs hs hg hd
 ·exact h.elim
attribute [local irreducible] rc
end Go.V
namespace Go.V
open Go.Proofs
set_option maxRecDepth 100000
set_option maxHeartbeats 8000000
set_option linter.unusedSimpArgs false
set_option linter.unnecessarySimpa false
set_option linter.unusedVariables false
attribute [local irreducible] rc
theorem use13 {ns : List ByteArray} {cs : List EvT.den} {K : SV → List SB → Prop} (h : K (.bool (fewP ns cs)) []) : C13 [.agg [.sl true 16 .str ns, .sl true 16 EvT cs]] [] K := .inr ⟨_, _, rfl, .inr ⟨_, _, rfl, h⟩⟩
theorem use15 {ns : List ByteArray} {cs : List EvT.den} {K : SV → List SB → Prop} (h1 : ns.length ≤ 100000) (h2 : cs.length ≤ 100000) (h : K (.agg [.sl true 16 .str ns, .sl true 16 EvT cs]) []) : C15 [.agg [.sl true 16 .str ns, .sl true 16 EvT cs]] [] K := .inr ⟨_, _, rfl, .inr ⟨_, _, rfl, h1, h2, h⟩⟩
theorem use14 {ns : List ByteArray} {cs : List EvT.den} {K : SV → List SB → Prop} (h1 : formP ns cs = false → K (.tup [.str ByteArray.empty, .int .i64 1]) []) (h2 : formP ns cs = true → K (.tup [.str (bsOf (printL ns cs)), .int .i64 0]) []) : C14 [.agg [.sl true 16 .str ns, .sl true 16 EvT cs]] [] K := ⟨h1, h2⟩
end Go.V
namespace Go.V
open Go.Proofs
set_option maxRecDepth 100000
set_option linter.unusedSimpArgs false
set_option linter.unnecessarySimpa false
set_option linter.unusedVariables false
/-! ### numbers as bytes -/
def klen (n : Nat) : Nat := if n < 256 then 1 else if n < 65536 then 2 else if n < 16777216 then 3 else if n < 4294967296 then 4 else if n < 1099511627776 then 5 else if n < 281474976710656 then 6 else if n < 72057594037927936 then 7 else 8
def beB (k n : Nat) : List UInt8 := (List.range k).map fun j => UInt8.ofNat (n / 256 ^ (k - 1 - j))
def numB (n : Int) : List UInt8 := if n < 248 then [UInt8.ofNat n.toNat] else UInt8.ofNat (247 + klen n.toNat) :: beB (klen n.toNat) n.toNat
def textB (s : ByteArray) : List UInt8 := numB s.size ++ s.data.toList
def zig (n : Int) : Int := if 0 ≤ n then 2 * n else -2 * n - 1
def unz (n : Int) : Int := if n % 2 = 0 then n / 2 else -(n / 2) - 1
def beN (l : List UInt8) : Nat := l.foldl (fun a b => a * 256 + b.toNat) 0
theorem klen_pos (n : Nat) : 1 ≤ klen n ∧ klen n ≤ 8 := by unfold klen; (repeat' split) <;> omega
theorem klen_of {n k : Int} (h : (k = 1 ∧ n < 256) ∨ (k = 2 ∧ 256 ≤ n ∧ n < 65536) ∨ (k = 3 ∧ 65536 ≤ n ∧ n < 16777216) ∨ (k = 4 ∧ 16777216 ≤ n ∧ n < 4294967296) ∨ (k = 5 ∧ 4294967296 ≤ n ∧ n < 1099511627776) ∨
  (k = 6 ∧ 1099511627776 ≤ n ∧ n < 281474976710656) ∨ (k = 7 ∧ 281474976710656 ≤ n ∧ n < 72057594037927936) ∨ (k = 8 ∧ 72057594037927936 ≤ n)) : (klen n.toNat : Int) = k := by
 unfold klen
 rcases h with h | h | h | h | h | h | h | h <;> (repeat' split) <;> omega
theorem klen_lo {n : Int} (h : 256 ≤ n) : ∀ j : Nat, j + 1 < klen n.toNat → (256 : Int) ^ (j + 1) ≤ n := by
 intro j hj
 have h8 := (klen_pos n.toNat).2
 unfold klen at hj
 have : j = 0 ∨ j = 1 ∨ j = 2 ∨ j = 3 ∨ j = 4 ∨ j = 5 ∨ j = 6 := by unfold klen at h8; omega
 rcases this with rfl | rfl | rfl | rfl | rfl | rfl | rfl <;> simp <;> (revert hj; (repeat' split) <;> omega)
theorem klen_hi {n : Int} (h : n ≤ 18446744073709551615) : n < (256 : Int) ^ (klen n.toNat) := by
 unfold klen
 (repeat' split) <;> simp <;> omega
theorem beB_length (k n : Nat) : (beB k n).length = k := by simp [beB]
theorem beB_get {k n j : Nat} (h : j < k) : (beB k n)[j]? = some (UInt8.ofNat (n / 256 ^ (k - 1 - j))) := by simp [beB, h]
theorem numB_length (n : Int) : 1 ≤ (numB n).length ∧ (numB n).length ≤ 9 := by
 unfold numB
 split
 ·simp
 ·have := klen_pos n.toNat
  simp [beB_length]; omega
theorem textB_length (s : ByteArray) : (textB s).length ≤ s.size + 9 := by
 have := (numB_length s.size).2
 have h : s.data.toList.length = s.size := by rw [Array.length_toList]; rfl
 simp only [textB, List.length_append, h]; omega
def lenT : ByteArray := ⟨#[0, 1, 2, 2, 3, 3, 3, 3, 4, 4, 4, 4, 4, 4, 4, 4, 5, 5, 5, 5, 5, 5, 5, 5, 5, 5, 5, 5, 5, 5, 5, 5, 6, 6, 6, 6, 6, 6, 6, 6, 6, 6, 6, 6, 6, 6, 6, 6, 6, 6, 6, 6, 6, 6, 6, 6, 6, 6, 6, 6, 6, 6, 6, 6, 7, 7, 7, 7, 7, 7, 7, 7, 7, 7, 7, 7, 7, 7, 7, 7, 7, 7, 7, 7, 7, 7, 7, 7, 7, 7, 7, 7, 7, 7, 7, 7, 7, 7, 7, 7, 7, 7, 7, 7, 7, 7, 7, 7, 7, 7, 7, 7, 7, 7, 7, 7, 7, 7, 7, 7, 7, 7, 7, 7, 7, 7, 7, 7, 8, 8, 8, 8, 8, 8, 8, 8, 8, 8, 8, 8, 8, 8, 8, 8, 8, 8, 8, 8, 8, 8, 8, 8, 8, 8, 8, 8, 8, 8, 8, 8, 8, 8, 8, 8, 8, 8, 8, 8, 8, 8, 8, 8, 8, 8, 8, 8, 8, 8, 8, 8, 8, 8, 8, 8, 8, 8, 8, 8, 8, 8, 8, 8, 8, 8, 8, 8, 8, 8, 8, 8, 8, 8, 8, 8, 8, 8, 8, 8, 8, 8, 8, 8, 8, 8, 8, 8, 8, 8, 8, 8, 8, 8, 8, 8, 8, 8, 8, 8, 8, 8, 8, 8, 8, 8, 8, 8, 8, 8, 8, 8, 8, 8, 8, 8, 8, 8, 8, 8, 8, 8, 8, 8, 8, 8, 8, 8]⟩
def lenL : List UInt8 := lenT.data.toList
theorem lenL_get : ∀ i : Fin 256, 1 ≤ i.val → 1 ≤ ((lenL.getD i.val 0).toNat) ∧ (lenL.getD i.val 0).toNat ≤ 8 := by decide +kernel
theorem fd32 {n : Int} : n.fdiv (2 ^ min 32 64) = n / 4294967296 := by rw [Int.fdiv_eq_ediv_of_nonneg _ (by decide)]; rfl
theorem fd16 {n : Int} : n.fdiv (2 ^ min 16 64) = n / 65536 := by rw [Int.fdiv_eq_ediv_of_nonneg _ (by decide)]; rfl
theorem fd8 {n : Int} : n.fdiv (2 ^ min 8 64) = n / 256 := by rw [Int.fdiv_eq_ediv_of_nonneg _ (by decide)]; rfl
theorem len_tail {K : SV → List SB → Prop} {x L : Int} (hx : 1 ≤ x ∧ x ≤ 255) (hL : 0 ≤ L ∧ L ≤ 56) (h : ∀ t : Int, 1 ≤ t → t ≤ 8 → K (.int .i64 (L + t)) []) :
  inR .u64 x → ∀ m2 : Int, m2 = IntKind.u8.wrap x → nd (0 ≤ m2 ∧ m2 < (lenT.size : Int)) (∀ m3 : Int, m3 = ((lenL.getD m2.toNat 0).toNat : Int) → inR .u8 m3 → ∀ m4 : Int, m4 = IntKind.i64.wrap m3 → inR .i64 L → inR .i64 m4 → ∀ m5 : Int, m5 = IntKind.i64.wrap (L + m4) → K (.int .i64 m5) []) := by
 rintro _ m2 hm2
 rw [wu8 (by omega)] at hm2
 subst hm2
 refine nd_intro ⟨by omega, ?_⟩ ?_
 ·have : lenT.size = 256 := by decide +kernel
  rw [this]; omega
 ·rintro m3 hm3 _ m4 hm4 _ _ m5 hm5
  obtain ⟨i, rfl⟩ := Int.eq_ofNat_of_zero_le (show 0 ≤ m2 by omega)
  have := lenL_get ⟨i, by omega⟩ (by show 1 ≤ i; omega)
  simp only [Int.toNat_natCast] at hm3
  simp only at this
  rw [w64 (by omega)] at hm4
  subst hm4
  rw [w64 (by omega)] at hm5
  subst hm5
  exact h _ (by omega) (by omega)
def C69 : Contract := fun args hp K => match args, hp with
 | [.int .u64 n], [] => 1 ≤ n ∧ ∀ l : Int, 1 ≤ l → l ≤ 64 → (l + 7) / 8 = klen n.toNat → K (.int .i64 l) []
 | _, _ => False
theorem s69 : Sound Tryd.prog 69 C69 := by
 refine sound_of_okF ok69 .nil ?_
 intro args hp K h
 unfold C69 at h
 split at h
 ·rename_i n
  obtain ⟨hn, h⟩ := h
  refine ⟨by simp, [], ?_⟩
  simp (maxSteps:=9^9) only [a69, r69, go_sem, Int.reduceLT, Int.reduceLE, Int.reduceEq, Int.reduceNe, Int.reduceAdd, Int.reduceSub, Int.reduceMul, Int.reduceToNat, Int.reduceNeg, Nat.reduceEqDiff, Nat.reduceLeDiff, Nat.reduceSub, Nat.reduceMul, Nat.reduceLT, Nat.reduceBEq, Nat.reduceAdd]
  have fin : ∀ L : Int, L % 8 = 0 → 0 ≤ L → L ≤ 56 → (klen n.toNat : Int) = L / 8 + 1 → ∀ t : Int, 1 ≤ t → t ≤ 8 → K (.int .i64 (L + t)) [] :=
   fun L h1 h2 h3 h4 t h5 h6 => h _ (by omega) (by omega) (by omega)
  rintro c1 hc1
  refine sw_intro (fun h1 => ?_) (fun h1 => ?_) <;> simp only [hc1, decide_eq_true_eq, decide_eq_false_iff_not] at h1
  ·rintro hn2 _ m1 rfl c2 hc2
   rw [inR_u64] at hn2
   rw [fd32] at hc2 ⊢
   refine sw_intro (fun h2 => ?_) (fun h2 => ?_) <;> simp only [hc2, decide_eq_true_eq, decide_eq_false_iff_not] at h2
   ·rintro _ _ m2 rfl _ _ L1 hL1 c3 hc3
    rw [w64 (by omega)] at hL1
    subst hL1
    rw [fd16] at hc3 ⊢
    refine sw_intro (fun h3 => ?_) (fun h3 => ?_) <;> simp only [hc3, decide_eq_true_eq, decide_eq_false_iff_not] at h3
    ·rintro _ _ m3 rfl _ _ L2 hL2
     rw [w64 (by omega)] at hL2
     subst hL2
     rw [fd8]
     refine len_tail ?_ ?_ (fin _ ?_ ?_ ?_ ?_) <;> first | omega | (refine klen_of ?_; omega)
    ·refine len_tail ?_ ?_ (fin _ ?_ ?_ ?_ ?_) <;> first | omega | (refine klen_of ?_; omega)
   ·rintro c3 hc3
    refine sw_intro (fun h3 => ?_) (fun h3 => ?_) <;> simp only [hc3, decide_eq_true_eq, decide_eq_false_iff_not] at h3
    ·rintro _ _ m3 rfl _ _ L2 hL2
     rw [w64 (by omega)] at hL2
     subst hL2
     rw [fd8]
     refine len_tail ?_ ?_ (fin _ ?_ ?_ ?_ ?_) <;> first | omega | (refine klen_of ?_; omega)
    ·refine len_tail ?_ ?_ (fin _ ?_ ?_ ?_ ?_) <;> first | omega | (refine klen_of ?_; omega)
  ·rintro c2 hc2
   refine sw_intro (fun h2 => ?_) (fun h2 => ?_) <;> simp only [hc2, decide_eq_true_eq, decide_eq_false_iff_not] at h2
   ·rintro _ _ m2 rfl _ _ L1 hL1 c3 hc3
    rw [w64 (by omega)] at hL1
    subst hL1
    rw [fd16] at hc3 ⊢
    refine sw_intro (fun h3 => ?_) (fun h3 => ?_) <;> simp only [hc3, decide_eq_true_eq, decide_eq_false_iff_not] at h3
    ·rintro _ _ m3 rfl _ _ L2 hL2
     rw [w64 (by omega)] at hL2
     subst hL2
     rw [fd8]
     refine len_tail ?_ ?_ (fin _ ?_ ?_ ?_ ?_) <;> first | omega | (refine klen_of ?_; omega)
    ·refine len_tail ?_ ?_ (fin _ ?_ ?_ ?_ ?_) <;> first | omega | (refine klen_of ?_; omega)
   ·rintro c3 hc3
    refine sw_intro (fun h3 => ?_) (fun h3 => ?_) <;> simp only [hc3, decide_eq_true_eq, decide_eq_false_iff_not] at h3
    ·rintro _ _ m3 rfl _ _ L2 hL2
     rw [w64 (by omega)] at hL2
     subst hL2
     rw [fd8]
     refine len_tail ?_ ?_ (fin _ ?_ ?_ ?_ ?_) <;> first | omega | (refine klen_of ?_; omega)
    ·refine len_tail ?_ ?_ (fin _ ?_ ?_ ?_ ?_) <;> first | omega | (refine klen_of ?_; omega)
 ·exact h.elim
def wrH (b : Bool) (bs : List UInt8) : List SB := [.struct [.own 1], .row b 1 .byte bs]
def onWr (hp : List SB) (k : List UInt8 → Prop) : Prop := ∃ bs, hp = wrH false bs ∧ k bs
@[go_sem] theorem onWr_eq {bs k} : onWr [.struct [.own 1], .row false 1 .byte (no_index bs)] k = k bs := by
 apply propext; constructor
 ·rintro ⟨bs', h, hk⟩
  unfold wrH at h
  cases h
  exact hk
 ·exact fun h => ⟨bs, rfl, h⟩
def C42 : Contract := fun args hp K => match args, hp with
 | [], [] => K (.ptr 0 0) (wrH true [])
 | _, _ => False
theorem s42 : Sound Tryd.prog 42 C42 := by
 refine sound_of_okF ok42 .nil ?_
 intro args hp K h
 unfold C42 at h
 split at h
 ·refine ⟨by simp, [], ?_⟩
  simp (maxSteps:=9^9) only [a42, r42, go_sem, Int.reduceLT, Int.reduceLE, Int.reduceEq, Int.reduceNe, Int.reduceAdd, Int.reduceSub, Int.reduceMul, Int.reduceToNat, Int.reduceNeg, Nat.reduceEqDiff, Nat.reduceLeDiff, Nat.reduceSub, Nat.reduceMul, Nat.reduceLT, Nat.reduceBEq, Nat.reduceAdd]
  exact h
 ·exact h.elim
theorem u8wrap (x : Int) : IntKind.u8.wrap x = x % 256 := by
 simp [IntKind.wrap, IntKind.signed, IntKind.bits]
theorem byte_at {n : Int} (h : 0 ≤ n) {j : Nat} : UInt8.ofNat (IntKind.u8.wrap (n.fdiv (2 ^ (8 * j)))).toNat = UInt8.ofNat (n.toNat / 256 ^ j) := by
 obtain ⟨a, rfl⟩ := Int.eq_ofNat_of_zero_le h
 have e : (2 : Int) ^ (8 * j) = ((256 ^ j : Nat) : Int) := by rw [Int.pow_mul]; simp
 rw [u8wrap, e, Int.fdiv_eq_ediv_of_nonneg _ (Int.natCast_nonneg _), Int.toNat_natCast, ← Int.natCast_ediv]
 have e2 : ((((a / 256 ^ j : Nat) : Int)) % 256).toNat = (a / 256 ^ j) % 256 := by omega
 rw [e2]
 apply UInt8.toNat_inj.1
 simp
def C43 : Contract := fun args hp K => match args with
 | [.ptr 0 0, .int .u64 n] => onWr hp fun bs => bs.length ≤ 70368744177664 ∧ K (.tup []) (wrH true (bs ++ numB n))
 | _ => False
def L43 (bs : List UInt8) (n : Int) : LoopAnn := cntA (fun i => ⟨[(0, .ptr 0 0), (1, .int .u64 n), (5, .int .i64 (klen n.toNat - 1 - i))], [.struct [.own 1], .row true 1 .byte (bs ++ UInt8.ofNat (247 + klen n.toNat) :: (beB (klen n.toNat) n.toNat).take i)]⟩) (klen n.toNat)
theorem s43 : Sound Tryd.prog 43 C43 := by
 refine sound_of_okF ok43 (.cons s69 (callable_of_okF ok69) .nil) ?_
 intro args hp K h
 unfold C43 at h
 split at h
 ·rename_i n
  obtain ⟨bs, rfl, hb, h⟩ := h
  refine ⟨by simp, [(1, L43 bs n)], ?_⟩
  unfold wrH at h ⊢
  simp (maxSteps:=9^9) only [a43, r43, C69, go_sem, Int.reduceLT, Int.reduceLE, Int.reduceEq, Int.reduceNe, Int.reduceAdd, Int.reduceSub, Int.reduceMul, Int.reduceToNat, Int.reduceNeg, Nat.reduceEqDiff, Nat.reduceLeDiff, Nat.reduceSub, Nat.reduceMul, Nat.reduceLT, Nat.reduceBEq, Nat.reduceAdd]
  rintro c rfl
  refine sw_intro (fun h1 => ?_) (fun h1 => ?_) <;> simp only [decide_eq_true_eq, decide_eq_false_iff_not] at h1
  ·rintro hi m hm
   rw [inR_u64] at hi
   rw [wu8 (by omega)] at hm
   subst hm
   refine ⟨fun _ => by omega, fun _ => ?_⟩
   have e : numB m = [UInt8.ofNat m.toNat] := by unfold numB; rw [if_pos h1]
   rw [e] at h
   exact h
  ·have hk := klen_pos n.toNat
   have hn0 : 0 ≤ n := by omega
   have e : numB n = UInt8.ofNat (247 + klen n.toNat) :: beB (klen n.toNat) n.toNat := by unfold numB; rw [if_neg h1]
   rw [e] at h
   refine ⟨by omega, ?_⟩
   rintro l hl1 hl2 hl _ _ m hm _ _ m1 hm1
   rw [w64 (by omega)] at hm
   subst hm
   rw [Int.tdiv_eq_ediv_of_nonneg (by omega), w64 (by omega), hl] at hm1
   subst hm1
   rintro _ _ m2 hm2 _ m3 hm3
   rw [w64 (by omega)] at hm2
   subst hm2
   rw [wu8 (by omega)] at hm3
   subst hm3
   refine ⟨fun _ => by omega, fun _ _ _ m4 hm4 => ?_⟩
   rw [w64 (by omega)] at hm4
   subst hm4
   have e2 : ((247 : Int) + (klen n.toNat : Int)).toNat = 247 + klen n.toNat := by omega
   rw [e2]
   refine loop_intro (A := L43 bs n) (0 : Nat) ?_ (Nat.zero_le _) ?_
   ·simp (maxSteps:=9^9) only [L43, cntA_I, go_sem, Int.reduceLT, Int.reduceLE, Int.reduceEq, Int.reduceNe, Int.reduceAdd, Int.reduceSub, Int.reduceMul, Int.reduceToNat, Int.reduceNeg, Nat.reduceEqDiff, Nat.reduceLeDiff, Nat.reduceSub, Nat.reduceMul, Nat.reduceLT, Nat.reduceBEq, Nat.reduceAdd]
    rw [show ((klen n.toNat : Int) - 1 - ((0 : Nat) : Int)) = (klen n.toNat : Int) - 1 by omega]
    rfl
   ·intro (i : Nat) (hi : i ≤ klen n.toNat)
    simp (maxSteps:=9^9) only [L43, cntA_I, go_sem, Int.reduceLT, Int.reduceLE, Int.reduceEq, Int.reduceNe, Int.reduceAdd, Int.reduceSub, Int.reduceMul, Int.reduceToNat, Int.reduceNeg, Nat.reduceEqDiff, Nat.reduceLeDiff, Nat.reduceSub, Nat.reduceMul, Nat.reduceLT, Nat.reduceBEq, Nat.reduceAdd]
    rintro c rfl
    refine sw_intro (fun hc => ?_) (fun hc => ?_) <;> simp only [decide_eq_true_eq, decide_eq_false_iff_not] at hc
    ·have hlt : i < klen n.toNat := by omega
     rintro _ _ m hm
     rw [w64 (by omega)] at hm
     subst hm
     refine ⟨by omega, fun _ _ _ m1 hm1 => ?_⟩
     have hx : (8 * ((klen n.toNat : Int) - 1 - i)).toNat = 8 * (klen n.toNat - 1 - i) := by omega
     rw [hx, Nat.min_eq_left (by omega)] at hm1
     rintro _ m2 hm2
     have hb2 : UInt8.ofNat m2.toNat = UInt8.ofNat (n.toNat / 256 ^ (klen n.toNat - 1 - i)) := by
      rw [hm2, hm1, byte_at hn0]
     have hlen : (bs ++ UInt8.ofNat (247 + klen n.toNat) :: List.take i (beB (klen n.toNat) n.toNat)).length = bs.length + (1 + i) := by
      simp [beB_length]; omega
     refine ⟨fun _ => by rw [hlen]; omega, fun _ _ _ m3 hm3 => ?_⟩
     rw [w64 (by omega)] at hm3
     subst hm3
     refine cntA_next hlt ?_
     simp (maxSteps:=9^9) only [go_sem, Int.reduceLT, Int.reduceLE, Int.reduceEq, Int.reduceNe, Int.reduceAdd, Int.reduceSub, Int.reduceMul, Int.reduceToNat, Int.reduceNeg, Nat.reduceEqDiff, Nat.reduceLeDiff, Nat.reduceSub, Nat.reduceMul, Nat.reduceLT, Nat.reduceBEq, Nat.reduceAdd]
     rw [hb2, List.append_assoc, List.cons_append, take_snoc (beB_get hlt), show ((klen n.toNat : Int) - 1 - ((i + 1 : Nat) : Int)) = (klen n.toNat : Int) - 1 - i - 1 by omega]
    ·have : i = klen n.toNat := by omega
     subst this
     rw [List.take_of_length_le (by rw [beB_length]; exact Nat.le_refl _)]
     exact h
 ·exact h.elim
def C46 : Contract := fun args hp K => match args with
 | [.ptr 0 0] => onWr hp fun bs => K (.own 2) (wrH false bs ++ [.row true 1 .byte bs])
 | _ => False
theorem s46 : Sound Tryd.prog 46 C46 := by
 refine sound_of_okF ok46 .nil ?_
 intro args hp K h
 unfold C46 at h
 split at h
 ·obtain ⟨bs, rfl, h⟩ := h
  refine ⟨by simp, [], ?_⟩
  unfold wrH at h ⊢
  simp (maxSteps:=9^9) only [a46, r46, go_sem, Int.reduceLT, Int.reduceLE, Int.reduceEq, Int.reduceNe, Int.reduceAdd, Int.reduceSub, Int.reduceMul, Int.reduceToNat, Int.reduceNeg, Nat.reduceEqDiff, Nat.reduceLeDiff, Nat.reduceSub, Nat.reduceMul, Nat.reduceLT, Nat.reduceBEq, Nat.reduceAdd]
  exact ⟨id, fun _ => h⟩
 ·exact h.elim
end Go.V
