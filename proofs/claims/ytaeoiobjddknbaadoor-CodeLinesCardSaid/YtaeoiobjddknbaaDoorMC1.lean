/- The condition on the listed variables, and the world's shape, give what the walks lean on. -/
import Derived.Test.YtaeoiobjddknbaaDoorMB8
import Derived.Test.YtaeoiobjddknbaaDoorVx
import Derived.Test.YtaeoiobjddknbaaDoorRows
import Derived.Lib.LaidTab
import Derived.Stop.LaidErr
import Derived.Shelf.Vars
import Derived.MakeChecks
import Derived.LaidMore
import Derived.LaidHandle
import Derived.Test.YtaeoiobjddknbaaDoorMN2
namespace Go.V
open Go.Proofs Go.Proofs.YtaeoiobjddknbaaDoor Go.ChangeShapes
set_option linter.unusedSimpArgs false
set_option linter.unnecessarySimpa false
set_option linter.unusedVariables false
set_option maxRecDepth 100000
theorem gMax : Tryd.prog.globalNamed "internal/bytealg.MaxLen" = some 0 := by kernel_rfl
theorem gPow : Tryd.prog.globalNamed "internal/strconv.uint64pow10" = some 1 := by kernel_rfl
theorem gSyn : Tryd.prog.globalNamed "strconv.ErrSyntax" = some 2 := by kernel_rfl
theorem gRng : Tryd.prog.globalNamed "strconv.ErrRange" = some 3 := by kernel_rfl
theorem head_iface {P : Program} {n nm : String} {d : DataW Unit} {r : List (String × DataW Unit)} {W : World} {g : Nat} {ti : TypeId} {ms : Array (String × TypeId)}
  (h : laidMet P ((n, .iface nm d) :: r) W) (hg : P.globalNamed n = some g) (ht : (P.globals[g]?).map (·.type) = some ti) (hi : P.underlying ti = some (.interface ms)) :
  ∃ tp p, W.var? P n = some #[.iface tp p] := by
 obtain ⟨ps, ⟨g0, t0, cs0, f0, p0, q0, hg0, ht0, hv0, hd0, _, e0⟩, _, hrows⟩ := h
 obtain rfl := Option.some.inj (hg.symm.trans hg0)
 obtain rfl := Option.some.inj (ht.symm.trans ht0)
 obtain ⟨l0⟩ := cs0
 obtain ⟨f1, u, v, rfl, hn, h1⟩ := iface_of_trod hi hd0
 exact ⟨u, v, hv0⟩
theorem gl_of_laid {W : World} (h : laidMetH Tryd.prog Rows.codeParsesRow.laid W) (hsh : W.ShapedOpen Tryd.prog) : Gl Tryd.prog (E0 W) := by
 rw [MakeChecks.laidMetH_plain _ _ _ (by kernel_rfl)] at h
 have h3 : laidMet Tryd.prog (("internal/strconv.uint64pow10", Lib.tabData .u64 ((List.range 20).map fun i => (10 : Int) ^ i)) :: [("strconv.ErrRange", Rows.laid_strconv_ErrRange), ("strconv.ErrSyntax", Rows.laid_strconv_ErrSyntax)]) W := h.tail.tail
 have hpow := Lib.tabIs_of_head gPow (t := 135) (e := 90) (n := 20) (by kernel_rfl) (by kernel_rfl) (by kernel_rfl) (by kernel_rfl) (by kernel_rfl) h3
 obtain ⟨t1, p1, hr⟩ := head_iface (ti := 73) h3.tail gRng (by kernel_rfl) Tryd.underlying73
 obtain ⟨t2, p2, hs⟩ := head_iface (ti := 73) h3.tail.tail gSyn (by kernel_rfl) Tryd.underlying73
 obtain ⟨m, hm⟩ := cell_of_shapedOpen_int (P := Tryd.prog) (g := 0) (t := 3) (zero := #[.int .i64 0]) hsh (of_decide_eq_true (by kernel_rfl)) (by kernel_rfl) rfl (by kernel_rfl) (by kernel_rfl) (by kernel_rfl)
 have hlt : ∀ {n g cs}, Tryd.prog.globalNamed n = some g → W.var? Tryd.prog n = some cs → g < W.heap.size := by
  intro n g cs hg hv
  unfold World.var? at hv
  rw [hg] at hv
  rcases Nat.lt_or_ge g W.heap.size with h' | h'
  ·exact h'
  ·simp [Array.getElem?_eq_none h'] at hv
 intro n hn g hg
 simp only [gnames, List.mem_cons, List.not_mem_nil, or_false] at hn
 rcases hn with rfl | rfl | rfl | rfl
 ·exact ⟨hlt hg hs, _, hs, fun _ => ⟨_, _, rfl⟩, by simp, by simp, by simp⟩
 ·exact ⟨hlt hg hr, _, hr, by simp, fun _ => ⟨_, _, rfl⟩, by simp, by simp⟩
 ·obtain ⟨cs, hc, hz, _⟩ := hsh.1 0 #[.int .i64 0] 3 (of_decide_eq_true (by kernel_rfl)) (by kernel_rfl)
  obtain ⟨l⟩ := cs
  match l, hz with
  | [c], _ =>
   have hv : W.var? Tryd.prog "internal/bytealg.MaxLen" = some #[c] := by
    unfold World.var?
    rw [gMax]
    simp [hc]
   have e : c = .int .i64 m := by
    simp [World.cell?, hc] at hm
    exact hm
   subst e
   exact ⟨hlt hg hv, _, hv, by simp, by simp, fun _ => ⟨m, rfl⟩, by simp⟩
 ·refine ⟨hlt hg hpow, _, hpow, by simp, by simp, by simp, fun _ => ?_⟩
  rw [List.map_map]
  rfl
theorem door_met (os : Os) (args : Array Value) : laidMetH Tryd.prog Rows.codeParsesRow.laid ((World.doorLaid Tryd.prog 62 os).forCall (fun _ _ => 0) ⟨#[], args, []⟩).memory :=
 laidMetH_of_parts3 (fuel := 8) (laidMet_of_run' 8 (by kernel_rfl) (by kernel_rfl)) (by kernel_rfl) (by kernel_rfl)
end Go.V
namespace Go.V
open Go.Proofs
set_option maxRecDepth 100000
set_option maxHeartbeats 8000000
set_option linter.unusedSimpArgs false
set_option linter.unnecessarySimpa false
set_option linter.unusedVariables false
theorem rdL_in {w : World} {F : Nat → Prop} {k k' : IntKind} : ∀ (xs : List (Int × Int)) (cs : List Value), rdL (rd w F (.pair (.int k) (.int k'))) xs cs → ∀ x ∈ xs, inR k x.1 ∧ inR k' x.2
 | [], _, _, x, hx => by cases hx
 | y :: ys, cs, h, x, hx => by
  obtain ⟨c1, c2, rfl, h1, h2⟩ := h
  rcases List.mem_cons.1 hx with rfl | hx'
  ·obtain ⟨d1, d2, _, a, b⟩ := h1
   exact ⟨a.2, b.2⟩
  ·exact rdL_in ys c2 h2 x hx'
theorem slp_in {E : En} {p : Bool} {eb : Nat} {k k' : IntKind} {xs : List (Int × Int)} {v : Value} (h : den E (.sl p eb (.pair (.int k) (.int k')) xs) v) : ∀ x ∈ xs, inR k x.1 ∧ inR k' x.2 := by
 simp only [den, slv] at h
 rcases h with ⟨rfl, _⟩ | ⟨_, _, _, _, _, _, cs, _, _, _, _, _, _, _, h⟩
 ·intro x hx; cases hx
 ·exact rdL_in xs cs h
theorem agg2_in {E : En} {x : SV} {p : Bool} {xs : List EvT.den} {v : Value} (hx : x.isArr = false) (h : den E (.agg [x, .sl p 16 EvT xs]) v) : ∀ x ∈ xs, inR .i64 x.2 := by
 simp only [den] at h
 obtain ⟨cs, rfl, h⟩ := h
 rw [denC_cons hx] at h
 obtain ⟨v1, c2, e1, d1, h⟩ := h
 rw [denC_cons (by rfl)] at h
 obtain ⟨v2, c3, e2, d2, h⟩ := h
 exact fun x hx => (slp_in d2 x hx).2
theorem use31 {s : ByteArray} {K : SV → List SB → Prop} (hs : s.size ≤ 100000) (h : K (.str (hexB s)) []) : C31 [.str s] [] K := ⟨hs, h⟩
theorem use33 {n : Int} {K : SV → List SB → Prop} (hn : inR .i64 n) (h : K (.str (itoaB n)) []) : C33 [.int .i64 n, .int .i64 10] [] K := by
 have hmx := maxLen_val
 have := itoa_len hn
 exact ⟨by unfold itoaB; rw [bsOf_size]; omega, h⟩
theorem use32x {op : Int} {K : SV → List SB → Prop} (hop : 0 ≤ op ∧ op < 24) (h : K (.tup [.str (wordB op.toNat), .int .i64 (opK op), .bool true]) []) : C32 [.int .i64 op] [] K := ⟨fun h' => absurd hop h', fun _ => h⟩
theorem elt_mem {t : Ty} {l : List t.den} {i : Nat} (h : i < l.length) : elt t l i ∈ l := List.mem_of_getElem? (elt_get h)
theorem key_size {s : ByteArray} (h : keyOk s = true) : s.size ≤ 40 := by
 simp only [keyOk, Bool.and_eq_true, decide_eq_true_eq] at h
 exact h.2
theorem ins_in {n c : Nat} {x : Int × Int} (h : insOk n c x = true) : (0 ≤ x.1 ∧ x.1 < 24) ∧ x.1.toNat < 24 := by
 simp only [insOk, Bool.and_eq_true, decide_eq_true_eq] at h
 have h2 : (0 : Int) ≤ x.1 ∧ x.1 < (24 : Int) := h.1
 exact ⟨h2, by omega⟩
theorem bS_row {l m : List UInt8} (h : l = m) (hm : m ≠ []) : bS l = [.struct [.ptr 0 0, .own 1], .row true 1 .byte m] := by
 subst h
 cases l with
 | nil => exact absurd rfl hm
 | cons x r => rfl
theorem bs_app (a b : ByteArray) : (a ++ b).data.toList = a.data.toList ++ b.data.toList := by
 rw [ByteArray.data_append, Array.toList_append]
theorem nm_bytes {n u v : ByteArray} (hu : u = ⟨#[110, 97, 109, 101, 32]⟩ ++ hexB n) (hv : v = u ++ ⟨#[10]⟩) : v.data.toList = nmL n := by
 rw [hv, hu, bs_app, bs_app, List.append_assoc]
 rfl
theorem ln_bytes {n : Int} {u : ByteArray} (hu : u = ⟨#[32]⟩ ++ itoaB n) : u.data.toList = 32 :: Lib.itoa n := by
 rw [hu, bs_app]
 rfl
theorem hexB_size (n : ByteArray) : (hexB n).size = 2 * n.size := by
 unfold hexB
 rw [bsOf_size, hexL_len, size_L]
def bS1 (l : List UInt8) : List SB := match l with
 | [] => [.struct [.nilp, .nils]]
 | x :: r => [.struct [.ptr 1 0, .own 2], .row true 1 .byte (x :: r)]
theorem bS1_nil : bS1 [] = [.struct [.nilp, .nils]] := rfl
theorem bS1_cons {x : UInt8} {r : List UInt8} : bS1 (x :: r) = [.struct [.ptr 1 0, .own 2], .row true 1 .byte (x :: r)] := rfl
def C14a : Contract := fun args hp K => match args, hp with
 | [.agg [.sl true 16 .str ns, .sl true 16 (.pair (.int .i64) (.int .i64)) cs]], [] => (∀ x ∈ (cs : List EvT.den), inR .i64 x.2) ∧ (formP ns cs = false → K (.tup [.str ByteArray.empty, .int .i64 1]) []) ∧ (formP ns cs = true → K (.tup [.str (bsOf (printL ns cs)), .int .i64 0]) [])
 | _, _ => False
def L14 (ns : List ByteArray) (cs : List EvT.den) : LoopAnn := cntA (fun i => ⟨[(1, .ptr 0 0), (4, .pty 1 71), (16, .sl true 16 .str ns), (17, .int .i64 ns.length), (18, .int .i64 i)], .struct [.sl true 16 .str ns, .sl true 16 EvT cs] :: bS1 (prN (ns.take i))⟩) ns.length
def M14 (ns : List ByteArray) (cs : List EvT.den) : LoopAnn := cntA (fun i => ⟨[(4, .pty 0 71), (29, .sl true 16 EvT cs), (30, .int .i64 cs.length), (31, .int .i64 i)], bS (prN ns ++ prC (cs.take i))⟩) cs.length
attribute [local irreducible] rc
theorem s14a : Sound Tryd.prog 14 C14a := by
 refine sound_of_okF ok14 (.cons s17 (callable_of_okF ok17) (.cons s31 (callable_of_okF ok31) (.cons s30 (callable_of_okF ok30) (.cons s32 (callable_of_okF ok32) (.cons s33 ⟨_, Tryd.func33, rfl, by decide⟩ (.cons s34 ⟨_, Tryd.func34, rfl, by decide⟩ .nil)))))) ?_
 intro args hp K h
 unfold C14a at h
 split at h
 ·rename_i ns cs
  obtain ⟨hr, hF, hT⟩ := h
  have hmx := maxLen_val
  refine ⟨by simp, [(1, L14 ns cs), (2, M14 ns cs)], ?_⟩
  simp (maxSteps:=9^9) only [a14, r14, go_sem, Int.reduceLT, Int.reduceLE, Int.reduceEq, Int.reduceNe, Int.reduceAdd, Int.reduceSub, Int.reduceMul, Int.reduceToNat, Int.reduceNeg, Nat.reduceEqDiff, Nat.reduceLeDiff, Nat.reduceSub, Nat.reduceMul, Nat.reduceLT, Nat.reduceBEq, Nat.reduceAdd]
  refine use17 ?_
  cases hf : formP ns cs with
  | false =>
   simp (maxSteps:=9^9) only [go_sem, Int.reduceLT, Int.reduceLE, Int.reduceEq, Int.reduceNe, Int.reduceAdd, Int.reduceSub, Int.reduceMul, Int.reduceToNat, Int.reduceNeg, Nat.reduceEqDiff, Nat.reduceLeDiff, Nat.reduceSub, Nat.reduceMul, Nat.reduceLT, Nat.reduceBEq, Nat.reduceAdd]
   exact hF hf
  | true =>
   have hT := hT hf
   obtain ⟨⟨hn1, hn2⟩, hk, hi2⟩ := formP_iff.1 hf
   simp (maxSteps:=9^9) only [go_sem, Int.reduceLT, Int.reduceLE, Int.reduceEq, Int.reduceNe, Int.reduceAdd, Int.reduceSub, Int.reduceMul, Int.reduceToNat, Int.reduceNeg, Nat.reduceEqDiff, Nat.reduceLeDiff, Nat.reduceSub, Nat.reduceMul, Nat.reduceLT, Nat.reduceBEq, Nat.reduceAdd]
   rintro _ _ m rfl
   refine loop_intro (A := L14 ns cs) (0 : Nat) ?_ (Nat.zero_le _) ?_
   ·simp (maxSteps:=9^9) only [go_sem, Int.reduceLT, Int.reduceLE, Int.reduceEq, Int.reduceNe, Int.reduceAdd, Int.reduceSub, Int.reduceMul, Int.reduceToNat, Int.reduceNeg, Nat.reduceEqDiff, Nat.reduceLeDiff, Nat.reduceSub, Nat.reduceMul, Nat.reduceLT, Nat.reduceBEq, Nat.reduceAdd]
    rfl
   ·intro (i : Nat) (hi : i ≤ ns.length)
    rcases Nat.eq_zero_or_pos i with rfl | hpos
    ·unfold L14
     simp (maxSteps:=9^9) only [cntA_I, List.take_zero, prN_nil, bS1_nil, go_sem, Int.reduceLT, Int.reduceLE, Int.reduceEq, Int.reduceNe, Int.reduceAdd, Int.reduceSub, Int.reduceMul, Int.reduceToNat, Int.reduceNeg, Nat.reduceEqDiff, Nat.reduceLeDiff, Nat.reduceSub, Nat.reduceMul, Nat.reduceLT, Nat.reduceBEq, Nat.reduceAdd]
     intro c hc
     refine swd hc (fun h0 => ?_) (fun h0 => ?_)
     ·have h0 : 0 < ns.length := by omega
      refine nd_intro (by omega) ?_
      have hk0 := List.all_eq_true.1 hk (elt .str ns 0) (elt_mem (t := .str) h0)
      have hkz := key_size hk0
      have hhz := hexB_size (elt .str ns 0)
      refine use31 (by omega) ?_
      simp (maxSteps:=9^9) only [C30, go_sem, Int.reduceLT, Int.reduceLE, Int.reduceEq, Int.reduceNe, Int.reduceAdd, Int.reduceSub, Int.reduceMul, Int.reduceToNat, Int.reduceNeg, Nat.reduceEqDiff, Nat.reduceLeDiff, Nat.reduceSub, Nat.reduceMul, Nat.reduceLT, Nat.reduceBEq, Nat.reduceAdd]
      refine ⟨by show 5 + _ ≤ _; omega, ?_⟩
      intro u hu
      have huz : u.size = 5 + (hexB (elt .str ns 0)).size := by rw [hu, ByteArray.size_append]; rfl
      refine ⟨by show _ + 1 ≤ _; omega, ?_⟩
      intro u2 hu2
      have hb := nm_bytes hu hu2
      have hn := nmL_len hk0
      have huz2 := size_L u2
      rw [hb] at huz2
      refine ⟨by omega, ?_⟩
      rintro _ _ m1 hm1
      rw [w64 (by omega)] at hm1
      refine cntA_next h0 ?_
      rw [hm1, hb]
      have e5 := prN_next h0
      rw [List.take_zero, prN_nil, List.nil_append] at e5
      rw [e5]
      rfl
     ·have hlast : ns = [] := List.eq_nil_of_length_eq_zero (by omega)
      rintro _ _ _ rfl
      refine loop_intro (A := M14 ns cs) (0 : Nat) ?_ (Nat.zero_le _) ?_
      ·simp (maxSteps:=9^9) only [go_sem, Int.reduceLT, Int.reduceLE, Int.reduceEq, Int.reduceNe, Int.reduceAdd, Int.reduceSub, Int.reduceMul, Int.reduceToNat, Int.reduceNeg, Nat.reduceEqDiff, Nat.reduceLeDiff, Nat.reduceSub, Nat.reduceMul, Nat.reduceLT, Nat.reduceBEq, Nat.reduceAdd]
       rw [hlast]
       rfl
      ·intro (j : Nat) (hj : j ≤ cs.length)
       have hlc : (prN ns ++ prC (cs.take j)).length ≤ 9000 := by
        have h1 := prN_len hk
        have h2 := prC_len (n := ns.length) (c := cs.length) (cs := cs.take j) (List.all_eq_true.2 fun x hx => List.all_eq_true.1 hi2 x (List.mem_of_mem_take hx)) (fun x hx => hr x (List.mem_of_mem_take hx))
        rw [List.length_take] at h2
        rw [List.length_append]
        omega
       cases hp : prN ns ++ prC (cs.take j) with
       | nil =>
        unfold M14
        simp (maxSteps:=9^9) only [cntA_I, hp, bS_nil, C34, go_sem, Int.reduceLT, Int.reduceLE, Int.reduceEq, Int.reduceNe, Int.reduceAdd, Int.reduceSub, Int.reduceMul, Int.reduceToNat, Int.reduceNeg, Nat.reduceEqDiff, Nat.reduceLeDiff, Nat.reduceSub, Nat.reduceMul, Nat.reduceLT, Nat.reduceBEq, Nat.reduceAdd]
        intro c hc
        refine swd hc (fun h0 => ?_) (fun h0 => ?_)
        ·have h0 : j < cs.length := by omega
         refine nd_intro (by omega) ?_
         obtain ⟨hop, hop2⟩ := ins_in (x := elt EvT cs j) (List.all_eq_true.1 hi2 _ (elt_mem (t := EvT) h0))
         have hr0 := hr _ (elt_mem (t := EvT) h0)
         have hwz : (wordB (elt EvT cs j).1.toNat).size ≤ 10 := by rw [size_L]; exact word_len _ hop2
         refine use32x hop ?_
         simp (maxSteps:=9^9) only [C30, go_sem, Int.reduceLT, Int.reduceLE, Int.reduceEq, Int.reduceNe, Int.reduceAdd, Int.reduceSub, Int.reduceMul, Int.reduceToNat, Int.reduceNeg, Nat.reduceEqDiff, Nat.reduceLeDiff, Nat.reduceSub, Nat.reduceMul, Nat.reduceLT, Nat.reduceBEq, Nat.reduceAdd]
         have e5 := prC_next h0
         have e6 : prN ns ++ prC (cs.take (j + 1)) = [] ++ lnL (elt EvT cs j) := by rw [e5, ← List.append_assoc, hp]
         have hwL : (wordB (elt EvT cs j).1.toNat).data.toList.length ≤ 10 := by rw [← size_L]; exact hwz
         refine ⟨by omega, ?_⟩
         intro c1 hc1
         refine swn hc1 (fun h1 => ?_) (fun h1 => ?_)
         ·refine use33 hr0 ?_
          simp (maxSteps:=9^9) only [C30, go_sem, Int.reduceLT, Int.reduceLE, Int.reduceEq, Int.reduceNe, Int.reduceAdd, Int.reduceSub, Int.reduceMul, Int.reduceToNat, Int.reduceNeg, Nat.reduceEqDiff, Nat.reduceLeDiff, Nat.reduceSub, Nat.reduceMul, Nat.reduceLT, Nat.reduceBEq, Nat.reduceAdd]
          have hil := itoa_len hr0
          have hiz : (itoaB (elt EvT cs j).2).size = (Lib.itoa (elt EvT cs j).2).length := bsOf_size _
          refine ⟨by show 1 + _ ≤ _; omega, ?_⟩
          intro u hu
          have hub := ln_bytes hu
          have huz := size_L u
          rw [hub, List.length_cons] at huz
          refine ⟨⟨by (try simp only [List.length_append]); omega, by omega⟩, ⟨by simp only [List.length_append, ← size_L]; omega, by show 1 ≤ _; omega⟩, ?_⟩
          rintro _ _ m1 hm1
          rw [w64 (by omega)] at hm1
          refine cntA_next h0 ?_
          rw [hm1, hub]
          have e7 : argL (elt EvT cs j) = 32 :: Lib.itoa (elt EvT cs j).2 := if_neg h1
          show _ = SS.mk _ (bS (prN ns ++ prC (cs.take (j + 1))))
          rw [bS_row (m := (wordB (elt EvT cs j).1.toNat).data.toList ++ (32 :: Lib.itoa (elt EvT cs j).2) ++ [10]) (by rw [e6]; unfold lnL; rw [e7]; unfold wordL; simp only [List.append_assoc, List.cons_append, List.nil_append]) (by simp)]
          rfl
         ·refine ⟨⟨by (try simp only [List.length_append]); omega, by show 1 ≤ _; omega⟩, ?_⟩
          rintro _ _ m1 hm1
          rw [w64 (by omega)] at hm1
          refine cntA_next h0 ?_
          rw [hm1]
          have e7 : argL (elt EvT cs j) = [] := if_pos h1
          show _ = SS.mk _ (bS (prN ns ++ prC (cs.take (j + 1))))
          rw [bS_row (m := (wordB (elt EvT cs j).1.toNat).data.toList ++ [10]) (by rw [e6]; unfold lnL; rw [e7]; unfold wordL; simp only [List.append_assoc, List.cons_append, List.nil_append]) (by simp)]
          rfl
        ·have e8 : prN ns ++ prC cs = [] := by rw [← hp, List.take_of_length_le (by omega)]
         unfold printL at hT
         rw [e8] at hT
         exact hT
       | cons x r =>
        rw [hp, List.length_cons] at hlc
        unfold M14
        simp (maxSteps:=9^9) only [cntA_I, hp, bS_cons, C34, go_sem, Int.reduceLT, Int.reduceLE, Int.reduceEq, Int.reduceNe, Int.reduceAdd, Int.reduceSub, Int.reduceMul, Int.reduceToNat, Int.reduceNeg, Nat.reduceEqDiff, Nat.reduceLeDiff, Nat.reduceSub, Nat.reduceMul, Nat.reduceLT, Nat.reduceBEq, Nat.reduceAdd]
        intro c hc
        refine swd hc (fun h0 => ?_) (fun h0 => ?_)
        ·have h0 : j < cs.length := by omega
         refine nd_intro (by omega) ?_
         obtain ⟨hop, hop2⟩ := ins_in (x := elt EvT cs j) (List.all_eq_true.1 hi2 _ (elt_mem (t := EvT) h0))
         have hr0 := hr _ (elt_mem (t := EvT) h0)
         have hwz : (wordB (elt EvT cs j).1.toNat).size ≤ 10 := by rw [size_L]; exact word_len _ hop2
         refine use32x hop ?_
         simp (maxSteps:=9^9) only [C30, go_sem, Int.reduceLT, Int.reduceLE, Int.reduceEq, Int.reduceNe, Int.reduceAdd, Int.reduceSub, Int.reduceMul, Int.reduceToNat, Int.reduceNeg, Nat.reduceEqDiff, Nat.reduceLeDiff, Nat.reduceSub, Nat.reduceMul, Nat.reduceLT, Nat.reduceBEq, Nat.reduceAdd]
         have e5 := prC_next h0
         have e6 : prN ns ++ prC (cs.take (j + 1)) = (x :: r) ++ lnL (elt EvT cs j) := by rw [e5, ← List.append_assoc, hp]
         have hwL : (wordB (elt EvT cs j).1.toNat).data.toList.length ≤ 10 := by rw [← size_L]; exact hwz
         refine ⟨⟨by omega, by omega⟩, ?_⟩
         intro c1 hc1
         refine swn hc1 (fun h1 => ?_) (fun h1 => ?_)
         ·refine use33 hr0 ?_
          simp (maxSteps:=9^9) only [C30, go_sem, Int.reduceLT, Int.reduceLE, Int.reduceEq, Int.reduceNe, Int.reduceAdd, Int.reduceSub, Int.reduceMul, Int.reduceToNat, Int.reduceNeg, Nat.reduceEqDiff, Nat.reduceLeDiff, Nat.reduceSub, Nat.reduceMul, Nat.reduceLT, Nat.reduceBEq, Nat.reduceAdd]
          have hil := itoa_len hr0
          have hiz : (itoaB (elt EvT cs j).2).size = (Lib.itoa (elt EvT cs j).2).length := bsOf_size _
          refine ⟨by show 1 + _ ≤ _; omega, ?_⟩
          intro u hu
          have hub := ln_bytes hu
          have huz := size_L u
          rw [hub, List.length_cons] at huz
          refine ⟨⟨by (try simp only [List.length_append]); omega, by omega⟩, ⟨by simp only [List.length_append, ← size_L]; omega, by show 1 ≤ _; omega⟩, ?_⟩
          rintro _ _ m1 hm1
          rw [w64 (by omega)] at hm1
          refine cntA_next h0 ?_
          rw [hm1, hub]
          have e7 : argL (elt EvT cs j) = 32 :: Lib.itoa (elt EvT cs j).2 := if_neg h1
          show _ = SS.mk _ (bS (prN ns ++ prC (cs.take (j + 1))))
          rw [bS_row (m := x :: (r ++ (wordB (elt EvT cs j).1.toNat).data.toList ++ (32 :: Lib.itoa (elt EvT cs j).2) ++ [10])) (by rw [e6]; unfold lnL; rw [e7]; unfold wordL; simp only [List.append_assoc, List.cons_append, List.nil_append]) (by simp)]
          rfl
         ·refine ⟨⟨by (try simp only [List.length_append]); omega, by show 1 ≤ _; omega⟩, ?_⟩
          rintro _ _ m1 hm1
          rw [w64 (by omega)] at hm1
          refine cntA_next h0 ?_
          rw [hm1]
          have e7 : argL (elt EvT cs j) = [] := if_pos h1
          show _ = SS.mk _ (bS (prN ns ++ prC (cs.take (j + 1))))
          rw [bS_row (m := x :: (r ++ (wordB (elt EvT cs j).1.toNat).data.toList ++ [10])) (by rw [e6]; unfold lnL; rw [e7]; unfold wordL; simp only [List.append_assoc, List.cons_append, List.nil_append]) (by simp)]
          rfl
        ·have e8 : prN ns ++ prC cs = x :: r := by rw [← hp, List.take_of_length_le (by omega)]
         unfold printL at hT
         rw [e8] at hT
         exact ⟨⟨by simp, by omega⟩, hT⟩
    ·obtain ⟨x, r, e⟩ : ∃ x r, prN (ns.take i) = x :: r := by
      obtain ⟨j, rfl⟩ : ∃ j, i = j + 1 := ⟨i - 1, by omega⟩
      rw [prN_next (by omega)]
      cases prN (ns.take j) with
      | nil => exact ⟨_, _, rfl⟩
      | cons x r => exact ⟨x, _, rfl⟩
     have hlen : (x :: r).length ≤ 9000 := by
      rw [← e]
      have h1 := prN_len (ns := ns.take i) (List.all_eq_true.2 fun x hx => List.all_eq_true.1 hk x (List.mem_of_mem_take hx))
      rw [List.length_take] at h1
      omega
     unfold L14
     simp (maxSteps:=9^9) only [cntA_I, e, bS1_cons, go_sem, Int.reduceLT, Int.reduceLE, Int.reduceEq, Int.reduceNe, Int.reduceAdd, Int.reduceSub, Int.reduceMul, Int.reduceToNat, Int.reduceNeg, Nat.reduceEqDiff, Nat.reduceLeDiff, Nat.reduceSub, Nat.reduceMul, Nat.reduceLT, Nat.reduceBEq, Nat.reduceAdd]
     intro c hc
     refine swd hc (fun h0 => ?_) (fun h0 => ?_)
     ·have h0 : i < ns.length := by omega
      refine nd_intro (by omega) ?_
      have hk0 := List.all_eq_true.1 hk (elt .str ns i) (elt_mem (t := .str) h0)
      have hkz := key_size hk0
      have hhz := hexB_size (elt .str ns i)
      refine use31 (by omega) ?_
      simp (maxSteps:=9^9) only [C30, go_sem, Int.reduceLT, Int.reduceLE, Int.reduceEq, Int.reduceNe, Int.reduceAdd, Int.reduceSub, Int.reduceMul, Int.reduceToNat, Int.reduceNeg, Nat.reduceEqDiff, Nat.reduceLeDiff, Nat.reduceSub, Nat.reduceMul, Nat.reduceLT, Nat.reduceBEq, Nat.reduceAdd]
      refine ⟨by show 5 + _ ≤ _; omega, ?_⟩
      intro u hu
      have huz : u.size = 5 + (hexB (elt .str ns i)).size := by rw [hu, ByteArray.size_append]; rfl
      refine ⟨by show _ + 1 ≤ _; omega, ?_⟩
      intro u2 hu2
      have hb := nm_bytes hu hu2
      have hn := nmL_len hk0
      have huz2 := size_L u2
      rw [hb] at huz2
      refine ⟨by simp only [List.length_cons] at hlen; omega, ?_⟩
      rintro _ _ m1 hm1
      rw [w64 (by omega)] at hm1
      refine cntA_next h0 ?_
      rw [hm1, hb]
      have e5 := prN_next h0
      rw [e] at e5
      rw [e5]
      rfl
     ·have hlast : ns.take i = ns := List.take_of_length_le (by omega)
      rintro _ _ _ rfl
      refine loop_intro (A := M14 ns cs) (0 : Nat) ?_ (Nat.zero_le _) ?_
      ·simp (maxSteps:=9^9) only [go_sem, Int.reduceLT, Int.reduceLE, Int.reduceEq, Int.reduceNe, Int.reduceAdd, Int.reduceSub, Int.reduceMul, Int.reduceToNat, Int.reduceNeg, Nat.reduceEqDiff, Nat.reduceLeDiff, Nat.reduceSub, Nat.reduceMul, Nat.reduceLT, Nat.reduceBEq, Nat.reduceAdd]
       have e9 : prN ns ++ prC (cs.take 0) = x :: r := by rw [hlast] at e; rw [← e, List.take_zero, prC_nil, List.append_nil]
       show _ = SS.mk _ (bS (prN ns ++ prC (cs.take 0)))
       rw [e9]
       rfl
      ·intro (j : Nat) (hj : j ≤ cs.length)
       have hlc : (prN ns ++ prC (cs.take j)).length ≤ 9000 := by
        have h1 := prN_len hk
        have h2 := prC_len (n := ns.length) (c := cs.length) (cs := cs.take j) (List.all_eq_true.2 fun x hx => List.all_eq_true.1 hi2 x (List.mem_of_mem_take hx)) (fun x hx => hr x (List.mem_of_mem_take hx))
        rw [List.length_take] at h2
        rw [List.length_append]
        omega
       cases hp : prN ns ++ prC (cs.take j) with
       | nil =>
        unfold M14
        simp (maxSteps:=9^9) only [cntA_I, hp, bS_nil, C34, go_sem, Int.reduceLT, Int.reduceLE, Int.reduceEq, Int.reduceNe, Int.reduceAdd, Int.reduceSub, Int.reduceMul, Int.reduceToNat, Int.reduceNeg, Nat.reduceEqDiff, Nat.reduceLeDiff, Nat.reduceSub, Nat.reduceMul, Nat.reduceLT, Nat.reduceBEq, Nat.reduceAdd]
        intro c hc
        refine swd hc (fun h0 => ?_) (fun h0 => ?_)
        ·have h0 : j < cs.length := by omega
         refine nd_intro (by omega) ?_
         obtain ⟨hop, hop2⟩ := ins_in (x := elt EvT cs j) (List.all_eq_true.1 hi2 _ (elt_mem (t := EvT) h0))
         have hr0 := hr _ (elt_mem (t := EvT) h0)
         have hwz : (wordB (elt EvT cs j).1.toNat).size ≤ 10 := by rw [size_L]; exact word_len _ hop2
         refine use32x hop ?_
         simp (maxSteps:=9^9) only [C30, go_sem, Int.reduceLT, Int.reduceLE, Int.reduceEq, Int.reduceNe, Int.reduceAdd, Int.reduceSub, Int.reduceMul, Int.reduceToNat, Int.reduceNeg, Nat.reduceEqDiff, Nat.reduceLeDiff, Nat.reduceSub, Nat.reduceMul, Nat.reduceLT, Nat.reduceBEq, Nat.reduceAdd]
         have e5 := prC_next h0
         have e6 : prN ns ++ prC (cs.take (j + 1)) = [] ++ lnL (elt EvT cs j) := by rw [e5, ← List.append_assoc, hp]
         have hwL : (wordB (elt EvT cs j).1.toNat).data.toList.length ≤ 10 := by rw [← size_L]; exact hwz
         refine ⟨by omega, ?_⟩
         intro c1 hc1
         refine swn hc1 (fun h1 => ?_) (fun h1 => ?_)
         ·refine use33 hr0 ?_
          simp (maxSteps:=9^9) only [C30, go_sem, Int.reduceLT, Int.reduceLE, Int.reduceEq, Int.reduceNe, Int.reduceAdd, Int.reduceSub, Int.reduceMul, Int.reduceToNat, Int.reduceNeg, Nat.reduceEqDiff, Nat.reduceLeDiff, Nat.reduceSub, Nat.reduceMul, Nat.reduceLT, Nat.reduceBEq, Nat.reduceAdd]
          have hil := itoa_len hr0
          have hiz : (itoaB (elt EvT cs j).2).size = (Lib.itoa (elt EvT cs j).2).length := bsOf_size _
          refine ⟨by show 1 + _ ≤ _; omega, ?_⟩
          intro u hu
          have hub := ln_bytes hu
          have huz := size_L u
          rw [hub, List.length_cons] at huz
          refine ⟨⟨by (try simp only [List.length_append]); omega, by omega⟩, ⟨by simp only [List.length_append, ← size_L]; omega, by show 1 ≤ _; omega⟩, ?_⟩
          rintro _ _ m1 hm1
          rw [w64 (by omega)] at hm1
          refine cntA_next h0 ?_
          rw [hm1, hub]
          have e7 : argL (elt EvT cs j) = 32 :: Lib.itoa (elt EvT cs j).2 := if_neg h1
          show _ = SS.mk _ (bS (prN ns ++ prC (cs.take (j + 1))))
          rw [bS_row (m := (wordB (elt EvT cs j).1.toNat).data.toList ++ (32 :: Lib.itoa (elt EvT cs j).2) ++ [10]) (by rw [e6]; unfold lnL; rw [e7]; unfold wordL; simp only [List.append_assoc, List.cons_append, List.nil_append]) (by simp)]
          rfl
         ·refine ⟨⟨by (try simp only [List.length_append]); omega, by show 1 ≤ _; omega⟩, ?_⟩
          rintro _ _ m1 hm1
          rw [w64 (by omega)] at hm1
          refine cntA_next h0 ?_
          rw [hm1]
          have e7 : argL (elt EvT cs j) = [] := if_pos h1
          show _ = SS.mk _ (bS (prN ns ++ prC (cs.take (j + 1))))
          rw [bS_row (m := (wordB (elt EvT cs j).1.toNat).data.toList ++ [10]) (by rw [e6]; unfold lnL; rw [e7]; unfold wordL; simp only [List.append_assoc, List.cons_append, List.nil_append]) (by simp)]
          rfl
        ·have e8 : prN ns ++ prC cs = [] := by rw [← hp, List.take_of_length_le (by omega)]
         unfold printL at hT
         rw [e8] at hT
         exact hT
       | cons x r =>
        rw [hp, List.length_cons] at hlc
        unfold M14
        simp (maxSteps:=9^9) only [cntA_I, hp, bS_cons, C34, go_sem, Int.reduceLT, Int.reduceLE, Int.reduceEq, Int.reduceNe, Int.reduceAdd, Int.reduceSub, Int.reduceMul, Int.reduceToNat, Int.reduceNeg, Nat.reduceEqDiff, Nat.reduceLeDiff, Nat.reduceSub, Nat.reduceMul, Nat.reduceLT, Nat.reduceBEq, Nat.reduceAdd]
        intro c hc
        refine swd hc (fun h0 => ?_) (fun h0 => ?_)
        ·have h0 : j < cs.length := by omega
         refine nd_intro (by omega) ?_
         obtain ⟨hop, hop2⟩ := ins_in (x := elt EvT cs j) (List.all_eq_true.1 hi2 _ (elt_mem (t := EvT) h0))
         have hr0 := hr _ (elt_mem (t := EvT) h0)
         have hwz : (wordB (elt EvT cs j).1.toNat).size ≤ 10 := by rw [size_L]; exact word_len _ hop2
         refine use32x hop ?_
         simp (maxSteps:=9^9) only [C30, go_sem, Int.reduceLT, Int.reduceLE, Int.reduceEq, Int.reduceNe, Int.reduceAdd, Int.reduceSub, Int.reduceMul, Int.reduceToNat, Int.reduceNeg, Nat.reduceEqDiff, Nat.reduceLeDiff, Nat.reduceSub, Nat.reduceMul, Nat.reduceLT, Nat.reduceBEq, Nat.reduceAdd]
         have e5 := prC_next h0
         have e6 : prN ns ++ prC (cs.take (j + 1)) = (x :: r) ++ lnL (elt EvT cs j) := by rw [e5, ← List.append_assoc, hp]
         have hwL : (wordB (elt EvT cs j).1.toNat).data.toList.length ≤ 10 := by rw [← size_L]; exact hwz
         refine ⟨⟨by omega, by omega⟩, ?_⟩
         intro c1 hc1
         refine swn hc1 (fun h1 => ?_) (fun h1 => ?_)
         ·refine use33 hr0 ?_
          simp (maxSteps:=9^9) only [C30, go_sem, Int.reduceLT, Int.reduceLE, Int.reduceEq, Int.reduceNe, Int.reduceAdd, Int.reduceSub, Int.reduceMul, Int.reduceToNat, Int.reduceNeg, Nat.reduceEqDiff, Nat.reduceLeDiff, Nat.reduceSub, Nat.reduceMul, Nat.reduceLT, Nat.reduceBEq, Nat.reduceAdd]
          have hil := itoa_len hr0
          have hiz : (itoaB (elt EvT cs j).2).size = (Lib.itoa (elt EvT cs j).2).length := bsOf_size _
          refine ⟨by show 1 + _ ≤ _; omega, ?_⟩
          intro u hu
          have hub := ln_bytes hu
          have huz := size_L u
          rw [hub, List.length_cons] at huz
          refine ⟨⟨by (try simp only [List.length_append]); omega, by omega⟩, ⟨by simp only [List.length_append, ← size_L]; omega, by show 1 ≤ _; omega⟩, ?_⟩
          rintro _ _ m1 hm1
          rw [w64 (by omega)] at hm1
          refine cntA_next h0 ?_
          rw [hm1, hub]
          have e7 : argL (elt EvT cs j) = 32 :: Lib.itoa (elt EvT cs j).2 := if_neg h1
          show _ = SS.mk _ (bS (prN ns ++ prC (cs.take (j + 1))))
          rw [bS_row (m := x :: (r ++ (wordB (elt EvT cs j).1.toNat).data.toList ++ (32 :: Lib.itoa (elt EvT cs j).2) ++ [10])) (by rw [e6]; unfold lnL; rw [e7]; unfold wordL; simp only [List.append_assoc, List.cons_append, List.nil_append]) (by simp)]
          rfl
         ·refine ⟨⟨by (try simp only [List.length_append]); omega, by show 1 ≤ _; omega⟩, ?_⟩
          rintro _ _ m1 hm1
          rw [w64 (by omega)] at hm1
          refine cntA_next h0 ?_
          rw [hm1]
          have e7 : argL (elt EvT cs j) = [] := if_pos h1
          show _ = SS.mk _ (bS (prN ns ++ prC (cs.take (j + 1))))
          rw [bS_row (m := x :: (r ++ (wordB (elt EvT cs j).1.toNat).data.toList ++ [10])) (by rw [e6]; unfold lnL; rw [e7]; unfold wordL; simp only [List.append_assoc, List.cons_append, List.nil_append]) (by simp)]
          rfl
        ·have e8 : prN ns ++ prC cs = x :: r := by rw [← hp, List.take_of_length_le (by omega)]
         unfold printL at hT
         rw [e8] at hT
         exact ⟨⟨by simp, by omega⟩, hT⟩
 ·exact h.elim
end Go.V
namespace Go.V
open Go.Proofs
set_option maxRecDepth 100000
set_option maxHeartbeats 8000000
set_option linter.unusedSimpArgs false
set_option linter.unnecessarySimpa false
set_option linter.unusedVariables false
theorem bL (l : List UInt8) : (bsOf l).data.toList = l := by simp [bsOf]
def prOut (K : SV → List SB → Prop) (ns : List ByteArray) (cs : List EvT.den) : Prop := (formP ns cs = false → K (.tup [.str ByteArray.empty, .int .i64 1]) []) ∧ (formP ns cs = true → K (.tup [.str (bsOf (printL ns cs)), .int .i64 0]) [])
def C14 : Contract := fun args hp K => match args, hp with
 | [.agg [.sl true 16 .str ns, .sl true 16 (.pair (.int .i64) (.int .i64)) cs]], [] => prOut K ns cs
 | _, _ => False
theorem s14 : Sound Tryd.prog 14 C14 := by
 intro args hp K h E vs hs hg hd
 unfold C14 at h
 split at h
 ·rename_i ns cs
  have hr : ∀ x ∈ cs, inR .i64 x.2 := by
   simp only [denL] at hd
   obtain ⟨v, r, rfl, h1, rfl⟩ := hd
   exact agg2_in rfl h1
  exact s14a [.agg [.sl true 16 .str ns, .sl true 16 EvT cs]] [] K ⟨hr, h⟩ E vs hs hg hd
 ·exact h.elim
attribute [local irreducible] rc
end Go.V
namespace Go.V
open Go.Proofs
set_option maxRecDepth 100000
set_option maxHeartbeats 8000000
set_option linter.unusedSimpArgs false
set_option linter.unnecessarySimpa false
set_option linter.unusedVariables false
attribute [local irreducible] rc
theorem use13 {ns : List ByteArray} {cs : List EvT.den} {K : SV → List SB → Prop} (h : K (.bool (fewP ns cs)) []) : C13 [.agg [.sl true 16 .str ns, .sl true 16 EvT cs]] [] K := .inr ⟨_, _, rfl, .inr ⟨_, _, rfl, h⟩⟩
theorem use15 {ns : List ByteArray} {cs : List EvT.den} {K : SV → List SB → Prop} (h1 : ns.length ≤ 100000) (h2 : cs.length ≤ 100000) (h : K (.agg [.sl true 16 .str ns, .sl true 16 EvT cs]) []) : C15 [.agg [.sl true 16 .str ns, .sl true 16 EvT cs]] [] K := .inr ⟨_, _, rfl, .inr ⟨_, _, rfl, h1, h2, h⟩⟩
theorem use14 {ns : List ByteArray} {cs : List EvT.den} {K : SV → List SB → Prop} (h1 : formP ns cs = false → K (.tup [.str ByteArray.empty, .int .i64 1]) []) (h2 : formP ns cs = true → K (.tup [.str (bsOf (printL ns cs)), .int .i64 0]) []) : C14 [.agg [.sl true 16 .str ns, .sl true 16 EvT cs]] [] K := ⟨h1, h2⟩
end Go.V
namespace Go.V
open Go.Proofs
set_option maxRecDepth 100000
set_option maxHeartbeats 4000000
set_option linter.unusedSimpArgs false
set_option linter.unnecessarySimpa false
set_option linter.unusedVariables false
theorem linesL_one {l : List UInt8} (h : l.contains 10 = false) (r : List UInt8) : linesL (l ++ 10 :: r) = l :: linesL r := by
 have key : ∀ (l acc : List UInt8), l.contains 10 = false → linesGo (l ++ 10 :: r) acc = (acc ++ l) :: linesGo r [] := by
  intro l
  induction l with
  | nil => intro acc _; simp [linesGo]
  | cons c l ih =>
   intro acc hc
   have h1 : ¬ c = 10 := by rintro rfl; simp at hc
   have h2 : l.contains 10 = false := by
    simp only [List.contains_cons, Bool.or_eq_false_iff] at hc
    exact hc.2
   show (if c = 10 then acc :: linesGo (l ++ 10 :: r) [] else linesGo (l ++ 10 :: r) (acc ++ [c])) = _
   rw [if_neg h1, ih _ h2, List.append_assoc]
   rfl
 exact key l [] h
theorem digV_hexT : ∀ x, x < 16 → digV (hexT.getD x 0) = some x := by decide +kernel
theorem hexT_ne : ∀ x, x < 16 → ¬ hexT.getD x 0 = 10 := by decide +kernel
theorem unhex_hex : ∀ l : List UInt8, unhexL (hexL l) = some l
 | [] => rfl
 | c :: r => by
  have hc := UInt8.toNat_lt c
  show unhexL (hexT.getD (c.toNat / 16) 0 :: hexT.getD (c.toNat % 16) 0 :: hexL r) = _
  simp only [unhexL]
  rw [digV_hexT _ (by omega), digV_hexT _ (by omega), unhex_hex r]
  simp only [Option.map_some]
  have : 16 * (c.toNat / 16) + c.toNat % 16 = c.toNat := by omega
  rw [this]
  simp
theorem no_app {a b : List UInt8} (h1 : a.contains 10 = false) (h2 : b.contains 10 = false) : (a ++ b).contains 10 = false := by
 simp only [List.contains_eq_mem, decide_eq_false_iff_not, List.mem_append, not_or] at *
 exact ⟨h1, h2⟩
theorem hexL_no : ∀ l : List UInt8, (hexL l).contains 10 = false
 | [] => rfl
 | c :: r => by
  have hc := UInt8.toNat_lt c
  refine no_app (a := hexC c) (b := hexL r) ?_ (hexL_no r)
  have h1 := hexT_ne (c.toNat / 16) (by omega)
  have h2 := hexT_ne (c.toNat % 16) (by omega)
  simp only [hexC, List.contains_eq_mem, decide_eq_false_iff_not, List.mem_cons, List.not_mem_nil, or_false, not_or]
  exact ⟨fun h => h1 h.symm, fun h => h2 h.symm⟩
theorem dec_no (k : Nat) : ∀ u : Nat, u < k → (Lib.decDigits u).contains 10 = false := by
 induction k with
 | zero => intro u h; omega
 | succ k ih =>
  intro u h
  have one : ∀ d, d < 10 → [UInt8.ofNat (48 + d)].contains 10 = false := by decide +kernel
  by_cases hu : u < 10
  ·rw [dec_small hu]
   exact one u hu
  ·rw [dec_big hu]
   exact no_app (ih _ (by omega)) (one _ (by omega))
theorem itoa_no (n : Int) : (Lib.itoa n).contains 10 = false := by
 unfold Lib.itoa
 split
 ·exact no_app (a := [45]) rfl (dec_no (n.natAbs + 1) _ (by omega))
 ·exact dec_no (n.toNat + 1) _ (by omega)
theorem word_no10 : ∀ j, j < 24 → (wordL j).contains 10 = false := by decide +kernel
theorem argL_no (x : EvT.den) : (argL x).contains 10 = false := by
 unfold argL
 split
 ·rfl
 ·exact no_app (a := [32]) rfl (itoa_no _)
theorem line_name {n : ByteArray} (h : keyOk n = true) : lineF (nameL ++ hexL n.data.toList) = some (.inl n) := by
 unfold lineF
 have h1 : nameL.isPrefixOf (nameL ++ hexL n.data.toList) = true := by
  rw [List.isPrefixOf_iff_prefix]
  exact ⟨_, rfl⟩
 have h2 : (nameL ++ hexL n.data.toList).drop 5 = hexL n.data.toList := rfl
 rw [if_pos h1, h2, unhex_hex]
 simp only [Option.bind_some]
 have h3 : bsOf n.data.toList = n := rfl
 rw [h3, if_pos h]
theorem numI_itoa {n : Int} (h : inR .i64 n) : numI (Lib.itoa n) = some n := by
 have h1 : -9223372036854775808 ≤ n ∧ n ≤ 9223372036854775807 := h
 unfold Lib.itoa
 split
 ·rename_i hn
  unfold numI
  rw [if_pos (show (45 :: Lib.decDigits n.natAbs).head? = some 45 from rfl)]
  show (natF (Lib.decDigits n.natAbs)).bind _ = _
  rw [natF_dec (by omega)]
  simp only [Option.bind_some]
  rw [if_neg (by omega)]
  congr 1
  omega
 ·rename_i hn
  have h45 : ¬ (Lib.decDigits n.toNat).head? = some 45 := by
   rcases Nat.eq_zero_or_pos n.toNat with h0 | h0
   ·rw [h0, dec_zero]; decide
   ·obtain ⟨c, r, e, _, h4⟩ := dec_head n.toNat h0
    rw [e]
    intro h5
    exact h4 (Option.some.inj h5)
  unfold numI
  rw [if_neg h45, natF_dec (by omega)]
  simp only [Option.bind_some]
  rw [if_neg (by omega)]
  congr 1
  omega
theorem word_not_name : ∀ j, j < 24 → 2 ≤ (wordL j).length ∧ ¬ (wordL j).take 2 = [110, 97] := by decide +kernel
theorem ins_ok {n c : Nat} {a b : Int} (h : insOk n c (a, b) = true) : ((0 : Int) ≤ a ∧ a.toNat < 24) ∧ (opK a = 0 → b = 0) := by
 simp only [insOk, Bool.and_eq_true, Bool.or_eq_true, decide_eq_true_eq] at h
 obtain ⟨h1, h2⟩ := h
 have h3 : (0 : Int) ≤ a ∧ a < (24 : Int) := h1
 refine ⟨⟨h3.1, by omega⟩, fun h0 => ?_⟩
 have h0' : opK (a, b).1 = 0 := h0
 rw [h0'] at h2
 rcases h2 with h2 | h2
 ·exact absurd h2 (by decide)
 ·have h4 : (0 : Int) ≤ b ∧ b < belowI 0 n c := h2
  have h5 : belowI 0 n c = 1 := rfl
  omega
theorem instr_line {n c : Nat} {a b : Int} (h : insOk n c (a, b) = true) (hb : inR .i64 b) : lineF (wordL a.toNat ++ argL (a, b)) = some (.inr (a, b)) := by
 have h1 := ins_ok h
 obtain ⟨⟨ha1, ha2⟩, hk⟩ := h1
 have hw := word_not_name a.toNat ha2
 have hp : ¬ nameL.isPrefixOf (wordL a.toNat ++ argL (a, b)) = true := by
  intro hp
  rw [List.isPrefixOf_iff_prefix] at hp
  obtain ⟨r, hr⟩ := hp
  have := congrArg (List.take 2) hr
  rw [List.take_append_of_le_length (by simp [nameL]), List.take_append_of_le_length hw.1] at this
  exact hw.2 this.symm
 unfold lineF
 rw [if_neg hp]
 have ea : ((a.toNat : Nat) : Int) = a := by omega
 have hi : instrF (wordL a.toNat ++ argL (a, b)) = some (a, b) := by
  unfold argL
  split
  ·rename_i h0
   have h0' : opK a.toNat = 0 := by rw [ea]; exact h0
   rw [List.append_nil, opM_instr ha2 (by unfold opM; rw [if_pos h0']; simp), if_pos h0', ea]
   have := hk h0
   rw [this]
  ·rename_i h0
   have h0' : ¬ opK a.toNat = 0 := by rw [ea]; exact h0
   have hm : opM (wordL a.toNat ++ 32 :: Lib.itoa b) a.toNat = true := by
    unfold opM
    rw [if_neg h0', List.isPrefixOf_iff_prefix]
    exact ⟨Lib.itoa b, by rw [List.append_assoc]; rfl⟩
   rw [opM_instr ha2 hm, if_neg h0', ea]
   have hd : (wordL a.toNat ++ 32 :: Lib.itoa b).drop ((wordL a.toNat).length + 1) = Lib.itoa b := by
    rw [← List.drop_drop, List.drop_left]
    rfl
   rw [hd, numI_itoa hb]
   rfl
 rw [hi]
 rfl
theorem parse_names : ∀ (ns : List ByteArray) (r : List UInt8) (i : Int) (ns0 : List ByteArray), ns.all keyOk = true → parseGo (linesL (prN ns ++ r)) i ns0 [] false = parseGo (linesL r) (i + ns.length) (ns0 ++ ns) [] false
 | [], r, i, ns0, _ => by simp [prN]
 | n :: ns, r, i, ns0, h => by
  simp only [List.all_cons, Bool.and_eq_true] at h
  have e : prN (n :: ns) ++ r = (nameL ++ hexL n.data.toList) ++ 10 :: (prN ns ++ r) := by
   show (nmL n ++ prN ns) ++ r = _
   unfold nmL
   simp only [List.append_assoc, List.cons_append, List.nil_append]
  rw [e, linesL_one (no_app rfl (hexL_no _))]
  simp only [parseGo, line_name h.1]
  have e2 : (false || decide (0 < ([] : List EvT.den).length)) = false := rfl
  rw [e2, parse_names ns r (i + 1) (ns0 ++ [n]) h.2]
  congr 1
  ·simp only [List.length_cons]; omega
  ·simp
theorem parse_code {m c : Nat} : ∀ (cs : List EvT.den) (r : List UInt8) (i : Int) (ns0 : List ByteArray) (cs0 : List EvT.den) (late : Bool), cs.all (insOk m c) = true → (∀ x ∈ cs, inR .i64 x.2) → parseGo (linesL (prC cs ++ r)) i ns0 cs0 late = parseGo (linesL r) (i + cs.length) ns0 (cs0 ++ cs) late
 | [], r, i, ns0, cs0, late, _, _ => by simp [prC]
 | (a, b) :: cs, r, i, ns0, cs0, late, h, hr => by
  rw [List.all_cons, Bool.and_eq_true] at h
  have e : prC ((a, b) :: cs) ++ r = (wordL a.toNat ++ argL (a, b)) ++ 10 :: (prC cs ++ r) := by
   show (lnL (a, b) ++ prC cs) ++ r = _
   unfold lnL
   simp only [List.append_assoc, List.cons_append, List.nil_append]
  have ha := ins_ok h.1
  rw [e, linesL_one (no_app (word_no10 _ ha.1.2) (argL_no _))]
  simp only [parseGo, instr_line h.1 (hr _ (List.mem_cons_self ..))]
  rw [parse_code cs r (i + 1) ns0 (cs0 ++ [(a, b)]) late h.2 (fun x hx => hr x (List.mem_cons_of_mem _ hx))]
  congr 1
  ·simp only [List.length_cons]; omega
  ·simp
theorem parse_print {ns : List ByteArray} {cs : List EvT.den} (h : formP ns cs = true) (hr : ∀ x ∈ cs, inR .i64 x.2) (r : List UInt8) : parseGo (linesL (printL ns cs ++ r)) 1 [] [] false = parseGo (linesL r) (1 + ns.length + cs.length) ns cs false := by
 obtain ⟨_, h2, h3⟩ := formP_iff.1 h
 unfold printL
 rw [List.append_assoc, parse_names ns _ 1 [] h2, parse_code cs r _ _ [] false h3 hr]
 simp
end Go.V
namespace Go.V
open Go.Proofs
set_option maxRecDepth 100000
set_option maxHeartbeats 8000000
set_option linter.unusedSimpArgs false
set_option linter.unnecessarySimpa false
set_option linter.unusedVariables false
theorem print_len {ns : List ByteArray} {cs : List EvT.den} (h : formP ns cs = true) (hr : ∀ x ∈ cs, inR .i64 x.2) : (printL ns cs).length ≤ 9000 := by
 obtain ⟨⟨hn1, hn2⟩, hk, hi2⟩ := formP_iff.1 h
 have h1 := prN_len hk
 have h2 := prC_len hi2 hr
 unfold printL
 rw [List.length_append]
 omega
theorem contains_next {l : List UInt8} {i : Nat} (h : i < l.length) (hc : (l.take i).contains 10 = false) (hn : ¬ l[i] = 10) : (l.take (i + 1)).contains 10 = false := by
 rw [List.take_succ_eq_append_getElem h]
 refine no_app hc ?_
 simp only [List.contains_eq_mem, decide_eq_false_iff_not, List.mem_singleton]
 exact fun e => hn e.symm
def C4a : Contract := fun args hp K => match args, hp with
 | [.agg [.sl true 16 .str n1, .sl true 16 (.pair (.int .i64) (.int .i64)) c1], .str line, .str behind], [] => (∀ x ∈ (c1 : List EvT.den), inR .i64 x.2) ∧ K (.bool true) []
 | _, _ => False
def L4 (n1 : List ByteArray) (c1 : List EvT.den) (line behind s : ByteArray) (e : Int) : LoopAnn := { G := Nat, I := fun i => ⟨[(1, .str line), (2, .str behind), (3, .ptr 0 0), (7, .str s), (8, .int .i64 e), (41, .int .i64 line.size), (42, .int .i64 i)], [.struct [.sl true 16 .str n1, .sl true 16 EvT c1]]⟩, R := fun _ i => i ≤ line.size ∧ (line.data.toList.take i).contains 10 = false, μ := fun i => line.size - i }
theorem L4_I {n1 c1 line behind s e} (i : Nat) : (L4 n1 c1 line behind s e).I i = ⟨[(1, .str line), (2, .str behind), (3, .ptr 0 0), (7, .str s), (8, .int .i64 e), (41, .int .i64 line.size), (42, .int .i64 i)], [.struct [.sl true 16 .str n1, .sl true 16 EvT c1]]⟩ := rfl
attribute [local irreducible] rc
theorem s4a : Sound Tryd.prog 4 C4a := by
  refine sound_of_okF ok4 (.cons s8 (callable_of_okF ok8) (.cons s13 (callable_of_okF ok13) (.cons s15 (callable_of_okF ok15) (.cons s14 (callable_of_okF ok14) (.cons s9 (callable_of_okF ok9) .nil))))) ?_
  intro args hp K h
  unfold C4a at h
  split at h
  · rename_i n1 c1 line behind
    obtain ⟨hr, h⟩ := h
    have hmx := maxLen_val
    have hll : line.data.toList.length = line.size := Array.length_toList
    cases fp : formP n1 c1 with
    | false =>
      refine ⟨by simp, [(1, L4 n1 c1 line behind ByteArray.empty 1)], ?_⟩
      simp (maxSteps:=9^9) only [a4, r4, C8, go_sem, Int.reduceLT, Int.reduceLE, Int.reduceEq, Int.reduceNe, Int.reduceAdd, Int.reduceSub, Int.reduceMul, Int.reduceToNat, Int.reduceNeg, Nat.reduceEqDiff, Nat.reduceLeDiff, Nat.reduceSub, Nat.reduceMul, Nat.reduceLT, Nat.reduceBEq, Nat.reduceAdd]
      refine use13 ?_
      cases f1 : fewP n1 c1 with
      | false =>
        simp (maxSteps:=9^9) only [C8, go_sem, Int.reduceLT, Int.reduceLE, Int.reduceEq, Int.reduceNe, Int.reduceAdd, Int.reduceSub, Int.reduceMul, Int.reduceToNat, Int.reduceNeg, Nat.reduceEqDiff, Nat.reduceLeDiff, Nat.reduceSub, Nat.reduceMul, Nat.reduceLT, Nat.reduceBEq, Nat.reduceAdd]
        exact h
      | true =>
        simp (maxSteps:=9^9) only [C8, go_sem, Int.reduceLT, Int.reduceLE, Int.reduceEq, Int.reduceNe, Int.reduceAdd, Int.reduceSub, Int.reduceMul, Int.reduceToNat, Int.reduceNeg, Nat.reduceEqDiff, Nat.reduceLeDiff, Nat.reduceSub, Nat.reduceMul, Nat.reduceLT, Nat.reduceBEq, Nat.reduceAdd]
        obtain ⟨⟨l1, z1⟩, l2⟩ := fewP_iff.1 f1
        intro _ m1 hm1 c hc
        refine swd hc (fun _ => h) (fun hq1 => ?_)
        intro _ m2 hm2 c hc
        refine swd hc (fun _ => h) (fun hq2 => ?_)
        refine use15 (by omega) (by omega) ?_
        simp (maxSteps:=9^9) only [go_sem, Int.reduceLT, Int.reduceLE, Int.reduceEq, Int.reduceNe, Int.reduceAdd, Int.reduceSub, Int.reduceMul, Int.reduceToNat, Int.reduceNeg, Nat.reduceEqDiff, Nat.reduceLeDiff, Nat.reduceSub, Nat.reduceMul, Nat.reduceLT, Nat.reduceBEq, Nat.reduceAdd]
        refine use14 (fun _ => ?_) (fun h' => absurd h' (by rw [fp]; simp))
        simp (maxSteps:=9^9) only [go_sem, Int.reduceLT, Int.reduceLE, Int.reduceEq, Int.reduceNe, Int.reduceAdd, Int.reduceSub, Int.reduceMul, Int.reduceToNat, Int.reduceNeg, Nat.reduceEqDiff, Nat.reduceLeDiff, Nat.reduceSub, Nat.reduceMul, Nat.reduceLT, Nat.reduceBEq, Nat.reduceAdd]
        rintro _ m3 hm3
        rw [hm3]
        refine loop_intro (A := L4 n1 c1 line behind ByteArray.empty 1) (0 : Nat) ?_ ⟨Nat.zero_le _, rfl⟩ ?_
        · simp (maxSteps:=9^9) only [L4_I, go_sem, Int.reduceLT, Int.reduceLE, Int.reduceEq, Int.reduceNe, Int.reduceAdd, Int.reduceSub, Int.reduceMul, Int.reduceToNat, Int.reduceNeg, Nat.reduceEqDiff, Nat.reduceLeDiff, Nat.reduceSub, Nat.reduceMul, Nat.reduceLT, Nat.reduceBEq, Nat.reduceAdd]
          rfl
        · rintro (i : Nat) (⟨g1, g2⟩ : i ≤ line.size ∧ (line.data.toList.take i).contains 10 = false)
          simp (maxSteps:=9^9) only [L4_I, go_sem, Int.reduceLT, Int.reduceLE, Int.reduceEq, Int.reduceNe, Int.reduceAdd, Int.reduceSub, Int.reduceMul, Int.reduceToNat, Int.reduceNeg, Nat.reduceEqDiff, Nat.reduceLeDiff, Nat.reduceSub, Nat.reduceMul, Nat.reduceLT, Nat.reduceBEq, Nat.reduceAdd]
          intro c hc
          refine swd hc (fun h0 => ?_) (fun h0 => ?_)
          · have h0 : i < line.size := by omega
            refine nd_intro (by omega) ?_
            rintro m4 hm4 c hc
            refine swd hc (fun _ => h) (fun hne => ?_)
            rintro _ _ m5 hm5
            rw [w64 (by omega)] at hm5
            rw [hm5, show (i : Int) + 1 = ((i + 1 : Nat) : Int) by omega]
            refine lpE_intro (A := L4 n1 c1 line behind ByteArray.empty 1) (i + 1 : Nat) rfl ⟨h0, contains_next (by omega) g2 ?_⟩ (by show line.size - (i + 1) < line.size - i; omega)
            intro e
            have e0 : line.data.toList.getD i 0 = line.data.toList[i]'(by omega) := getD_eq (by omega)
            apply hne
            rw [hm4, e0, e]
            try rfl
          · have hno : line.data.toList.contains 10 = false := by
              rw [List.take_of_length_le (by omega)] at g2
              exact g2
            refine ⟨by show _ + 1 ≤ _; omega, ?_⟩
            intro u hu
            have huL : u.data.toList = line.data.toList ++ 10 :: [] := by rw [hu, bs_app]; try rfl
            have huz : u.size = line.size + 1 := by rw [hu, ByteArray.size_append]; try rfl
            refine use9 (fun h' => absurd h' (by omega)) (fun _ => ?_)
            rw [huL, linesL_one hno]
            have e1 : linesL ([] : List UInt8) = [] := rfl
            rw [e1]
            simp only [parseGo]
            cases hl : lineF line.data.toList with
            | none =>
              simp only
              rw [pOut_bad]
              simp (maxSteps:=9^9) only [go_sem, Int.reduceLT, Int.reduceLE, Int.reduceEq, Int.reduceNe, Int.reduceAdd, Int.reduceSub, Int.reduceMul, Int.reduceToNat, Int.reduceNeg, Nat.reduceEqDiff, Nat.reduceLeDiff, Nat.reduceSub, Nat.reduceMul, Nat.reduceLT, Nat.reduceBEq, Nat.reduceAdd]
              exact h
            | some v =>
              cases v with
              | inl n =>
                simp only
                rw [pOut_fin]
                split
                · simp (maxSteps:=9^9) only [go_sem, Int.reduceLT, Int.reduceLE, Int.reduceEq, Int.reduceNe, Int.reduceAdd, Int.reduceSub, Int.reduceMul, Int.reduceToNat, Int.reduceNeg, Nat.reduceEqDiff, Nat.reduceLeDiff, Nat.reduceSub, Nat.reduceMul, Nat.reduceLT, Nat.reduceBEq, Nat.reduceAdd]
                  exact h
                · simp (maxSteps:=9^9) only [go_sem, Int.reduceLT, Int.reduceLE, Int.reduceEq, Int.reduceNe, Int.reduceAdd, Int.reduceSub, Int.reduceMul, Int.reduceToNat, Int.reduceNeg, Nat.reduceEqDiff, Nat.reduceLeDiff, Nat.reduceSub, Nat.reduceMul, Nat.reduceLT, Nat.reduceBEq, Nat.reduceAdd]
                  exact h
              | inr x =>
                simp only
                rw [pOut_fin]
                split
                · simp (maxSteps:=9^9) only [go_sem, Int.reduceLT, Int.reduceLE, Int.reduceEq, Int.reduceNe, Int.reduceAdd, Int.reduceSub, Int.reduceMul, Int.reduceToNat, Int.reduceNeg, Nat.reduceEqDiff, Nat.reduceLeDiff, Nat.reduceSub, Nat.reduceMul, Nat.reduceLT, Nat.reduceBEq, Nat.reduceAdd]
                  exact h
                · simp (maxSteps:=9^9) only [go_sem, Int.reduceLT, Int.reduceLE, Int.reduceEq, Int.reduceNe, Int.reduceAdd, Int.reduceSub, Int.reduceMul, Int.reduceToNat, Int.reduceNeg, Nat.reduceEqDiff, Nat.reduceLeDiff, Nat.reduceSub, Nat.reduceMul, Nat.reduceLT, Nat.reduceBEq, Nat.reduceAdd]
                  exact h
    | true =>
      have hpl := print_len fp hr
      refine ⟨by simp, [(1, L4 n1 c1 line behind (bsOf (printL n1 c1)) 0)], ?_⟩
      simp (maxSteps:=9^9) only [a4, r4, C8, go_sem, Int.reduceLT, Int.reduceLE, Int.reduceEq, Int.reduceNe, Int.reduceAdd, Int.reduceSub, Int.reduceMul, Int.reduceToNat, Int.reduceNeg, Nat.reduceEqDiff, Nat.reduceLeDiff, Nat.reduceSub, Nat.reduceMul, Nat.reduceLT, Nat.reduceBEq, Nat.reduceAdd]
      refine use13 ?_
      cases f1 : fewP n1 c1 with
      | false =>
        simp (maxSteps:=9^9) only [C8, go_sem, Int.reduceLT, Int.reduceLE, Int.reduceEq, Int.reduceNe, Int.reduceAdd, Int.reduceSub, Int.reduceMul, Int.reduceToNat, Int.reduceNeg, Nat.reduceEqDiff, Nat.reduceLeDiff, Nat.reduceSub, Nat.reduceMul, Nat.reduceLT, Nat.reduceBEq, Nat.reduceAdd]
        exact h
      | true =>
        simp (maxSteps:=9^9) only [C8, go_sem, Int.reduceLT, Int.reduceLE, Int.reduceEq, Int.reduceNe, Int.reduceAdd, Int.reduceSub, Int.reduceMul, Int.reduceToNat, Int.reduceNeg, Nat.reduceEqDiff, Nat.reduceLeDiff, Nat.reduceSub, Nat.reduceMul, Nat.reduceLT, Nat.reduceBEq, Nat.reduceAdd]
        obtain ⟨⟨l1, z1⟩, l2⟩ := fewP_iff.1 f1
        intro _ m1 hm1 c hc
        refine swd hc (fun _ => h) (fun hq1 => ?_)
        intro _ m2 hm2 c hc
        refine swd hc (fun _ => h) (fun hq2 => ?_)
        refine use15 (by omega) (by omega) ?_
        simp (maxSteps:=9^9) only [go_sem, Int.reduceLT, Int.reduceLE, Int.reduceEq, Int.reduceNe, Int.reduceAdd, Int.reduceSub, Int.reduceMul, Int.reduceToNat, Int.reduceNeg, Nat.reduceEqDiff, Nat.reduceLeDiff, Nat.reduceSub, Nat.reduceMul, Nat.reduceLT, Nat.reduceBEq, Nat.reduceAdd]
        refine use14 (fun h' => absurd h' (by rw [fp]; simp)) (fun _ => ?_)
        simp (maxSteps:=9^9) only [go_sem, Int.reduceLT, Int.reduceLE, Int.reduceEq, Int.reduceNe, Int.reduceAdd, Int.reduceSub, Int.reduceMul, Int.reduceToNat, Int.reduceNeg, Nat.reduceEqDiff, Nat.reduceLeDiff, Nat.reduceSub, Nat.reduceMul, Nat.reduceLT, Nat.reduceBEq, Nat.reduceAdd]
        rintro _ m3 hm3
        rw [hm3]
        refine loop_intro (A := L4 n1 c1 line behind (bsOf (printL n1 c1)) 0) (0 : Nat) ?_ ⟨Nat.zero_le _, rfl⟩ ?_
        · simp (maxSteps:=9^9) only [L4_I, go_sem, Int.reduceLT, Int.reduceLE, Int.reduceEq, Int.reduceNe, Int.reduceAdd, Int.reduceSub, Int.reduceMul, Int.reduceToNat, Int.reduceNeg, Nat.reduceEqDiff, Nat.reduceLeDiff, Nat.reduceSub, Nat.reduceMul, Nat.reduceLT, Nat.reduceBEq, Nat.reduceAdd]
          rfl
        · rintro (i : Nat) (⟨g1, g2⟩ : i ≤ line.size ∧ (line.data.toList.take i).contains 10 = false)
          simp (maxSteps:=9^9) only [L4_I, go_sem, Int.reduceLT, Int.reduceLE, Int.reduceEq, Int.reduceNe, Int.reduceAdd, Int.reduceSub, Int.reduceMul, Int.reduceToNat, Int.reduceNeg, Nat.reduceEqDiff, Nat.reduceLeDiff, Nat.reduceSub, Nat.reduceMul, Nat.reduceLT, Nat.reduceBEq, Nat.reduceAdd]
          intro c hc
          refine swd hc (fun h0 => ?_) (fun h0 => ?_)
          · have h0 : i < line.size := by omega
            refine nd_intro (by omega) ?_
            rintro m4 hm4 c hc
            refine swd hc (fun _ => h) (fun hne => ?_)
            rintro _ _ m5 hm5
            rw [w64 (by omega)] at hm5
            rw [hm5, show (i : Int) + 1 = ((i + 1 : Nat) : Int) by omega]
            refine lpE_intro (A := L4 n1 c1 line behind (bsOf (printL n1 c1)) 0) (i + 1 : Nat) rfl ⟨h0, contains_next (by omega) g2 ?_⟩ (by show line.size - (i + 1) < line.size - i; omega)
            intro e
            have e0 : line.data.toList.getD i 0 = line.data.toList[i]'(by omega) := getD_eq (by omega)
            apply hne
            rw [hm4, e0, e]
            try rfl
          · have hno : line.data.toList.contains 10 = false := by
              rw [List.take_of_length_le (by omega)] at g2
              exact g2
            refine ⟨by show _ + 1 ≤ _; omega, ?_⟩
            intro u hu
            have huL : u.data.toList = line.data.toList ++ 10 :: [] := by rw [hu, bs_app]; try rfl
            have huz : u.size = line.size + 1 := by rw [hu, ByteArray.size_append]; try rfl
            refine use9 (fun h' => absurd h' (by omega)) (fun _ => ?_)
            rw [huL, linesL_one hno]
            have e1 : linesL ([] : List UInt8) = [] := rfl
            rw [e1]
            simp only [parseGo]
            cases hl : lineF line.data.toList with
            | none =>
              simp only
              rw [pOut_bad]
              simp (maxSteps:=9^9) only [go_sem, Int.reduceLT, Int.reduceLE, Int.reduceEq, Int.reduceNe, Int.reduceAdd, Int.reduceSub, Int.reduceMul, Int.reduceToNat, Int.reduceNeg, Nat.reduceEqDiff, Nat.reduceLeDiff, Nat.reduceSub, Nat.reduceMul, Nat.reduceLT, Nat.reduceBEq, Nat.reduceAdd]
              have hps := bsOf_size (printL n1 c1)
              refine ⟨by omega, ?_⟩
              intro v1 hv1
              have hz1 : v1.size = (printL n1 c1).length + line.size := by rw [hv1, ByteArray.size_append, hps]
              refine ⟨by show _ + 1 ≤ _; omega, ?_⟩
              intro v2 hv2
              have hz2 : v2.size = v1.size + 1 := by rw [hv2, ByteArray.size_append]; rfl
              refine ⟨by omega, ?_⟩
              intro v3 hv3
              have hz3 : v3.size = v2.size + behind.size := by rw [hv3, ByteArray.size_append]
              have hL : v3.data.toList = printL n1 c1 ++ (line.data.toList ++ 10 :: behind.data.toList) := by
                rw [hv3, hv2, hv1, bs_app, bs_app, bs_app, bL]
                simp only [List.append_assoc]
                rfl
              refine use9 (fun h' => absurd h' (by omega)) (fun _ => ?_)
              rw [hL, parse_print fp hr, linesL_one hno]
              simp only [parseGo, hl]
              rw [pOut_bad]
              simp (maxSteps:=9^9) only [go_sem, Int.reduceLT, Int.reduceLE, Int.reduceEq, Int.reduceNe, Int.reduceAdd, Int.reduceSub, Int.reduceMul, Int.reduceToNat, Int.reduceNeg, Nat.reduceEqDiff, Nat.reduceLeDiff, Nat.reduceSub, Nat.reduceMul, Nat.reduceLT, Nat.reduceBEq, Nat.reduceAdd]
              rintro _ _ q1 hx1 _ _ q2 hx2 _ _ q3 hx3 _ _ q4 hx4 c hc
              rw [w64 (by omega)] at hx3
              rw [w64 (by omega)] at hx4
              refine swd hc (fun _ => h) (fun hq => absurd ?_ hq)
              omega
            | some v =>
              cases v with
              | inl n =>
                simp only
                rw [pOut_fin]
                split
                · simp (maxSteps:=9^9) only [go_sem, Int.reduceLT, Int.reduceLE, Int.reduceEq, Int.reduceNe, Int.reduceAdd, Int.reduceSub, Int.reduceMul, Int.reduceToNat, Int.reduceNeg, Nat.reduceEqDiff, Nat.reduceLeDiff, Nat.reduceSub, Nat.reduceMul, Nat.reduceLT, Nat.reduceBEq, Nat.reduceAdd]
                  exact h
                · simp (maxSteps:=9^9) only [go_sem, Int.reduceLT, Int.reduceLE, Int.reduceEq, Int.reduceNe, Int.reduceAdd, Int.reduceSub, Int.reduceMul, Int.reduceToNat, Int.reduceNeg, Nat.reduceEqDiff, Nat.reduceLeDiff, Nat.reduceSub, Nat.reduceMul, Nat.reduceLT, Nat.reduceBEq, Nat.reduceAdd]
                  exact h
              | inr x =>
                simp only
                rw [pOut_fin]
                split
                · simp (maxSteps:=9^9) only [go_sem, Int.reduceLT, Int.reduceLE, Int.reduceEq, Int.reduceNe, Int.reduceAdd, Int.reduceSub, Int.reduceMul, Int.reduceToNat, Int.reduceNeg, Nat.reduceEqDiff, Nat.reduceLeDiff, Nat.reduceSub, Nat.reduceMul, Nat.reduceLT, Nat.reduceBEq, Nat.reduceAdd]
                  exact h
                · simp (maxSteps:=9^9) only [go_sem, Int.reduceLT, Int.reduceLE, Int.reduceEq, Int.reduceNe, Int.reduceAdd, Int.reduceSub, Int.reduceMul, Int.reduceToNat, Int.reduceNeg, Nat.reduceEqDiff, Nat.reduceLeDiff, Nat.reduceSub, Nat.reduceMul, Nat.reduceLT, Nat.reduceBEq, Nat.reduceAdd]
                  exact h
  · exact h.elim
def C4 : Contract := fun args hp K => match args, hp with
 | [.agg [.sl true 16 .str n1, .sl true 16 (.pair (.int .i64) (.int .i64)) c1], .str line, .str behind], [] => K (.bool true) []
 | _, _ => False
theorem s4 : Sound Tryd.prog 4 C4 := by
 intro args hp K h E vs hs hg hd
 unfold C4 at h
 split at h
 ·rename_i ns cs line behind
  have hr : ∀ x ∈ cs, inR .i64 x.2 := by
   simp only [denL] at hd
   obtain ⟨v, r, rfl, h1, _⟩ := hd
   exact agg2_in rfl h1
  exact s4a [.agg [.sl true 16 .str ns, .sl true 16 (.pair (.int .i64) (.int .i64)) cs], .str line, .str behind] [] K ⟨hr, h⟩ E vs hs hg hd
 ·exact h.elim
end Go.V
