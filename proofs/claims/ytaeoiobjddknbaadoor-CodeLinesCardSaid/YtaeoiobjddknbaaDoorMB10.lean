/- Printed programs: the package's Print and the document's. -/
import Derived.Test.YtaeoiobjddknbaaDoorMB7
import Derived.Test.YtaeoiobjddknbaaDoorMB5
import Derived.Test.YtaeoiobjddknbaaDoorMA73
namespace Go.V
open Go.Proofs
set_option maxRecDepth 100000
set_option maxHeartbeats 8000000
set_option linter.unusedSimpArgs false
set_option linter.unnecessarySimpa false
set_option linter.unusedVariables false
theorem rdL_in {w : World} {F : Nat → Prop} {k k' : IntKind} : ∀ (xs : List (Int × Int)) (cs : List Value), rdL (rd w F (.pair (.int k) (.int k'))) xs cs → ∀ x ∈ xs, inR k x.1 ∧ inR k' x.2
 | [], _, _, x, hx => by cases hx
 | y :: ys, cs, h, x, hx => by
  obtain ⟨c1, c2, rfl, h1, h2⟩ := h
  rcases List.mem_cons.1 hx with rfl | hx'
  ·obtain ⟨d1, d2, _, a, b⟩ := h1
   exact ⟨a.2, b.2⟩
  ·exact rdL_in ys c2 h2 x hx'
theorem slp_in {E : En} {p : Bool} {eb : Nat} {k k' : IntKind} {xs : List (Int × Int)} {v : Value} (h : den E (.sl p eb (.pair (.int k) (.int k')) xs) v) : ∀ x ∈ xs, inR k x.1 ∧ inR k' x.2 := by
 simp only [den, slv] at h
 rcases h with ⟨rfl, _⟩ | ⟨_, _, _, _, _, _, cs, _, _, _, _, _, _, _, h⟩
 ·intro x hx; cases hx
 ·exact rdL_in xs cs h
theorem agg2_in {E : En} {x : SV} {p : Bool} {xs : List EvT.den} {v : Value} (hx : x.isArr = false) (h : den E (.agg [x, .sl p 16 EvT xs]) v) : ∀ x ∈ xs, inR .i64 x.2 := by
 simp only [den] at h
 obtain ⟨cs, rfl, h⟩ := h
 rw [denC_cons hx] at h
 obtain ⟨v1, c2, e1, d1, h⟩ := h
 rw [denC_cons (by rfl)] at h
 obtain ⟨v2, c3, e2, d2, h⟩ := h
 exact fun x hx => (slp_in d2 x hx).2
theorem use31 {s : ByteArray} {K : SV → List SB → Prop} (hs : s.size ≤ 100000) (h : K (.str (hexB s)) []) : C31 [.str s] [] K := ⟨hs, h⟩
theorem use35 {s : ByteArray} {K : SV → List SB → Prop} (hs : s.size ≤ 100000) (h : K (.str (hexB s)) []) : C35 [.str s] [] K := ⟨hs, h⟩
theorem use33 {n : Int} {K : SV → List SB → Prop} (hn : inR .i64 n) (h : K (.str (itoaB n)) []) : C33 [.int .i64 n, .int .i64 10] [] K := by
 have hmx := maxLen_val
 have := itoa_len hn
 exact ⟨by unfold itoaB; rw [bsOf_size]; omega, h⟩
theorem use32x {op : Int} {K : SV → List SB → Prop} (hop : 0 ≤ op ∧ op < 24) (h : K (.tup [.str (wordB op.toNat), .int .i64 (opK op), .bool true]) []) : C32 [.int .i64 op] [] K := ⟨fun h' => absurd hop h', fun _ => h⟩
theorem use36x {op : Int} {K : SV → List SB → Prop} (hop : 0 ≤ op ∧ op < 24) (h : K (.tup [.str (wordB op.toNat), .int .i64 (opK op)]) []) : C36 [.int .i64 op] [] K := ⟨fun h' => absurd hop h', fun _ => h⟩
theorem elt_mem {t : Ty} {l : List t.den} {i : Nat} (h : i < l.length) : elt t l i ∈ l := List.mem_of_getElem? (elt_get h)
theorem key_size {s : ByteArray} (h : keyOk s = true) : s.size ≤ 40 := by
 simp only [keyOk, Bool.and_eq_true, decide_eq_true_eq] at h
 exact h.2
theorem ins_in {n c : Nat} {x : Int × Int} (h : insOk n c x = true) : (0 ≤ x.1 ∧ x.1 < 24) ∧ x.1.toNat < 24 := by
 simp only [insOk, Bool.and_eq_true, decide_eq_true_eq] at h
 have h2 : (0 : Int) ≤ x.1 ∧ x.1 < (24 : Int) := h.1
 exact ⟨h2, by omega⟩
theorem bS_row {l m : List UInt8} (h : l = m) (hm : m ≠ []) : bS l = [.struct [.ptr 0 0, .own 1], .row true 1 .byte m] := by
 subst h
 cases l with
 | nil => exact absurd rfl hm
 | cons x r => rfl
theorem bs_app (a b : ByteArray) : (a ++ b).data.toList = a.data.toList ++ b.data.toList := by
 rw [ByteArray.data_append, Array.toList_append]
theorem nm_bytes {n u v : ByteArray} (hu : u = ⟨#[110, 97, 109, 101, 32]⟩ ++ hexB n) (hv : v = u ++ ⟨#[10]⟩) : v.data.toList = nmL n := by
 rw [hv, hu, bs_app, bs_app, List.append_assoc]
 rfl
theorem ln_bytes {n : Int} {u : ByteArray} (hu : u = ⟨#[32]⟩ ++ itoaB n) : u.data.toList = 32 :: Lib.itoa n := by
 rw [hu, bs_app]
 rfl
theorem hexB_size (n : ByteArray) : (hexB n).size = 2 * n.size := by
 unfold hexB
 rw [bsOf_size, hexL_len, size_L]
def bS1 (l : List UInt8) : List SB := match l with
 | [] => [.struct [.nilp, .nils]]
 | x :: r => [.struct [.ptr 1 0, .own 2], .row true 1 .byte (x :: r)]
theorem bS1_nil : bS1 [] = [.struct [.nilp, .nils]] := rfl
theorem bS1_cons {x : UInt8} {r : List UInt8} : bS1 (x :: r) = [.struct [.ptr 1 0, .own 2], .row true 1 .byte (x :: r)] := rfl
def C14a : Contract := fun args hp K => match args, hp with
 | [.agg [.sl true 16 .str ns, .sl true 16 (.pair (.int .i64) (.int .i64)) cs]], [] => (∀ x ∈ (cs : List EvT.den), inR .i64 x.2) ∧ (formP ns cs = false → K (.tup [.str ByteArray.empty, .int .i64 1]) []) ∧ (formP ns cs = true → K (.tup [.str (bsOf (printL ns cs)), .int .i64 0]) [])
 | _, _ => False
def L14 (ns : List ByteArray) (cs : List EvT.den) : LoopAnn := cntA (fun i => ⟨[(1, .ptr 0 0), (4, .pty 1 71), (16, .sl true 16 .str ns), (17, .int .i64 ns.length), (18, .int .i64 i)], .struct [.sl true 16 .str ns, .sl true 16 EvT cs] :: bS1 (prN (ns.take i))⟩) ns.length
def M14 (ns : List ByteArray) (cs : List EvT.den) : LoopAnn := cntA (fun i => ⟨[(4, .pty 0 71), (29, .sl true 16 EvT cs), (30, .int .i64 cs.length), (31, .int .i64 i)], bS (prN ns ++ prC (cs.take i))⟩) cs.length
attribute [local irreducible] rc
theorem s14a : Sound Tryd.prog 14 C14a := by
 refine sound_of_okF ok14 (.cons s17 (callable_of_okF ok17) (.cons s31 (callable_of_okF ok31) (.cons s30 (callable_of_okF ok30) (.cons s32 (callable_of_okF ok32) (.cons s33 ⟨_, Tryd.func33, rfl, by decide⟩ (.cons s34 ⟨_, Tryd.func34, rfl, by decide⟩ .nil)))))) ?_
 intro args hp K h
 unfold C14a at h
 split at h
 ·rename_i ns cs
  obtain ⟨hr, hF, hT⟩ := h
  have hmx := maxLen_val
  refine ⟨by simp, [(1, L14 ns cs), (2, M14 ns cs)], ?_⟩
  simp (maxSteps:=9^9) only [a14, r14, go_sem, Int.reduceLT, Int.reduceLE, Int.reduceEq, Int.reduceNe, Int.reduceAdd, Int.reduceSub, Int.reduceMul, Int.reduceToNat, Int.reduceNeg, Nat.reduceEqDiff, Nat.reduceLeDiff, Nat.reduceSub, Nat.reduceMul, Nat.reduceLT, Nat.reduceBEq, Nat.reduceAdd]
  refine use17 ?_
  cases hf : formP ns cs with
  | false =>
   simp (maxSteps:=9^9) only [go_sem, Int.reduceLT, Int.reduceLE, Int.reduceEq, Int.reduceNe, Int.reduceAdd, Int.reduceSub, Int.reduceMul, Int.reduceToNat, Int.reduceNeg, Nat.reduceEqDiff, Nat.reduceLeDiff, Nat.reduceSub, Nat.reduceMul, Nat.reduceLT, Nat.reduceBEq, Nat.reduceAdd]
   exact hF hf
  | true =>
   have hT := hT hf
   obtain ⟨⟨hn1, hn2⟩, hk, hi2⟩ := formP_iff.1 hf
   simp (maxSteps:=9^9) only [go_sem, Int.reduceLT, Int.reduceLE, Int.reduceEq, Int.reduceNe, Int.reduceAdd, Int.reduceSub, Int.reduceMul, Int.reduceToNat, Int.reduceNeg, Nat.reduceEqDiff, Nat.reduceLeDiff, Nat.reduceSub, Nat.reduceMul, Nat.reduceLT, Nat.reduceBEq, Nat.reduceAdd]
   rintro _ _ m rfl
   refine loop_intro (A := L14 ns cs) (0 : Nat) ?_ (Nat.zero_le _) ?_
   ·simp (maxSteps:=9^9) only [go_sem, Int.reduceLT, Int.reduceLE, Int.reduceEq, Int.reduceNe, Int.reduceAdd, Int.reduceSub, Int.reduceMul, Int.reduceToNat, Int.reduceNeg, Nat.reduceEqDiff, Nat.reduceLeDiff, Nat.reduceSub, Nat.reduceMul, Nat.reduceLT, Nat.reduceBEq, Nat.reduceAdd]
    rfl
   ·intro (i : Nat) (hi : i ≤ ns.length)
    rcases Nat.eq_zero_or_pos i with rfl | hpos
    ·unfold L14
     simp (maxSteps:=9^9) only [cntA_I, List.take_zero, prN_nil, bS1_nil, go_sem, Int.reduceLT, Int.reduceLE, Int.reduceEq, Int.reduceNe, Int.reduceAdd, Int.reduceSub, Int.reduceMul, Int.reduceToNat, Int.reduceNeg, Nat.reduceEqDiff, Nat.reduceLeDiff, Nat.reduceSub, Nat.reduceMul, Nat.reduceLT, Nat.reduceBEq, Nat.reduceAdd]
     intro c hc
     refine swd hc (fun h0 => ?_) (fun h0 => ?_)
     ·have h0 : 0 < ns.length := by omega
      refine nd_intro (by omega) ?_
      have hk0 := List.all_eq_true.1 hk (elt .str ns 0) (elt_mem (t := .str) h0)
      have hkz := key_size hk0
      have hhz := hexB_size (elt .str ns 0)
      refine use31 (by omega) ?_
      simp (maxSteps:=9^9) only [C30, go_sem, Int.reduceLT, Int.reduceLE, Int.reduceEq, Int.reduceNe, Int.reduceAdd, Int.reduceSub, Int.reduceMul, Int.reduceToNat, Int.reduceNeg, Nat.reduceEqDiff, Nat.reduceLeDiff, Nat.reduceSub, Nat.reduceMul, Nat.reduceLT, Nat.reduceBEq, Nat.reduceAdd]
      refine ⟨by show 5 + _ ≤ _; omega, ?_⟩
      intro u hu
      have huz : u.size = 5 + (hexB (elt .str ns 0)).size := by rw [hu, ByteArray.size_append]; rfl
      refine ⟨by show _ + 1 ≤ _; omega, ?_⟩
      intro u2 hu2
      have hb := nm_bytes hu hu2
      have hn := nmL_len hk0
      have huz2 := size_L u2
      rw [hb] at huz2
      refine ⟨by omega, ?_⟩
      rintro _ _ m1 hm1
      rw [w64 (by omega)] at hm1
      refine cntA_next h0 ?_
      rw [hm1, hb]
      have e5 := prN_next h0
      rw [List.take_zero, prN_nil, List.nil_append] at e5
      rw [e5]
      rfl
     ·have hlast : ns = [] := List.eq_nil_of_length_eq_zero (by omega)
      rintro _ _ _ rfl
      refine loop_intro (A := M14 ns cs) (0 : Nat) ?_ (Nat.zero_le _) ?_
      ·simp (maxSteps:=9^9) only [go_sem, Int.reduceLT, Int.reduceLE, Int.reduceEq, Int.reduceNe, Int.reduceAdd, Int.reduceSub, Int.reduceMul, Int.reduceToNat, Int.reduceNeg, Nat.reduceEqDiff, Nat.reduceLeDiff, Nat.reduceSub, Nat.reduceMul, Nat.reduceLT, Nat.reduceBEq, Nat.reduceAdd]
       rw [hlast]
       rfl
      ·intro (j : Nat) (hj : j ≤ cs.length)
       have hlc : (prN ns ++ prC (cs.take j)).length ≤ 9000 := by
        have h1 := prN_len hk
        have h2 := prC_len (n := ns.length) (c := cs.length) (cs := cs.take j) (List.all_eq_true.2 fun x hx => List.all_eq_true.1 hi2 x (List.mem_of_mem_take hx)) (fun x hx => hr x (List.mem_of_mem_take hx))
        rw [List.length_take] at h2
        rw [List.length_append]
        omega
       cases hp : prN ns ++ prC (cs.take j) with
       | nil =>
        unfold M14
        simp (maxSteps:=9^9) only [cntA_I, hp, bS_nil, C34, go_sem, Int.reduceLT, Int.reduceLE, Int.reduceEq, Int.reduceNe, Int.reduceAdd, Int.reduceSub, Int.reduceMul, Int.reduceToNat, Int.reduceNeg, Nat.reduceEqDiff, Nat.reduceLeDiff, Nat.reduceSub, Nat.reduceMul, Nat.reduceLT, Nat.reduceBEq, Nat.reduceAdd]
        intro c hc
        refine swd hc (fun h0 => ?_) (fun h0 => ?_)
        ·have h0 : j < cs.length := by omega
         refine nd_intro (by omega) ?_
         obtain ⟨hop, hop2⟩ := ins_in (x := elt EvT cs j) (List.all_eq_true.1 hi2 _ (elt_mem (t := EvT) h0))
         have hr0 := hr _ (elt_mem (t := EvT) h0)
         have hwz : (wordB (elt EvT cs j).1.toNat).size ≤ 10 := by rw [size_L]; exact word_len _ hop2
         refine use32x hop ?_
         simp (maxSteps:=9^9) only [C30, go_sem, Int.reduceLT, Int.reduceLE, Int.reduceEq, Int.reduceNe, Int.reduceAdd, Int.reduceSub, Int.reduceMul, Int.reduceToNat, Int.reduceNeg, Nat.reduceEqDiff, Nat.reduceLeDiff, Nat.reduceSub, Nat.reduceMul, Nat.reduceLT, Nat.reduceBEq, Nat.reduceAdd]
         have e5 := prC_next h0
         have e6 : prN ns ++ prC (cs.take (j + 1)) = [] ++ lnL (elt EvT cs j) := by rw [e5, ← List.append_assoc, hp]
         have hwL : (wordB (elt EvT cs j).1.toNat).data.toList.length ≤ 10 := by rw [← size_L]; exact hwz
         refine ⟨by omega, ?_⟩
         intro c1 hc1
         refine swn hc1 (fun h1 => ?_) (fun h1 => ?_)
         ·refine use33 hr0 ?_
          simp (maxSteps:=9^9) only [C30, go_sem, Int.reduceLT, Int.reduceLE, Int.reduceEq, Int.reduceNe, Int.reduceAdd, Int.reduceSub, Int.reduceMul, Int.reduceToNat, Int.reduceNeg, Nat.reduceEqDiff, Nat.reduceLeDiff, Nat.reduceSub, Nat.reduceMul, Nat.reduceLT, Nat.reduceBEq, Nat.reduceAdd]
          have hil := itoa_len hr0
          have hiz : (itoaB (elt EvT cs j).2).size = (Lib.itoa (elt EvT cs j).2).length := bsOf_size _
          refine ⟨by show 1 + _ ≤ _; omega, ?_⟩
          intro u hu
          have hub := ln_bytes hu
          have huz := size_L u
          rw [hub, List.length_cons] at huz
          refine ⟨⟨by (try simp only [List.length_append]); omega, by omega⟩, ⟨by simp only [List.length_append, ← size_L]; omega, by show 1 ≤ _; omega⟩, ?_⟩
          rintro _ _ m1 hm1
          rw [w64 (by omega)] at hm1
          refine cntA_next h0 ?_
          rw [hm1, hub]
          have e7 : argL (elt EvT cs j) = 32 :: Lib.itoa (elt EvT cs j).2 := if_neg h1
          show _ = SS.mk _ (bS (prN ns ++ prC (cs.take (j + 1))))
          rw [bS_row (m := (wordB (elt EvT cs j).1.toNat).data.toList ++ (32 :: Lib.itoa (elt EvT cs j).2) ++ [10]) (by rw [e6]; unfold lnL; rw [e7]; unfold wordL; simp only [List.append_assoc, List.cons_append, List.nil_append]) (by simp)]
          rfl
         ·refine ⟨⟨by (try simp only [List.length_append]); omega, by show 1 ≤ _; omega⟩, ?_⟩
          rintro _ _ m1 hm1
          rw [w64 (by omega)] at hm1
          refine cntA_next h0 ?_
          rw [hm1]
          have e7 : argL (elt EvT cs j) = [] := if_pos h1
          show _ = SS.mk _ (bS (prN ns ++ prC (cs.take (j + 1))))
          rw [bS_row (m := (wordB (elt EvT cs j).1.toNat).data.toList ++ [10]) (by rw [e6]; unfold lnL; rw [e7]; unfold wordL; simp only [List.append_assoc, List.cons_append, List.nil_append]) (by simp)]
          rfl
        ·have e8 : prN ns ++ prC cs = [] := by rw [← hp, List.take_of_length_le (by omega)]
         unfold printL at hT
         rw [e8] at hT
         exact hT
       | cons x r =>
        rw [hp, List.length_cons] at hlc
        unfold M14
        simp (maxSteps:=9^9) only [cntA_I, hp, bS_cons, C34, go_sem, Int.reduceLT, Int.reduceLE, Int.reduceEq, Int.reduceNe, Int.reduceAdd, Int.reduceSub, Int.reduceMul, Int.reduceToNat, Int.reduceNeg, Nat.reduceEqDiff, Nat.reduceLeDiff, Nat.reduceSub, Nat.reduceMul, Nat.reduceLT, Nat.reduceBEq, Nat.reduceAdd]
        intro c hc
        refine swd hc (fun h0 => ?_) (fun h0 => ?_)
        ·have h0 : j < cs.length := by omega
         refine nd_intro (by omega) ?_
         obtain ⟨hop, hop2⟩ := ins_in (x := elt EvT cs j) (List.all_eq_true.1 hi2 _ (elt_mem (t := EvT) h0))
         have hr0 := hr _ (elt_mem (t := EvT) h0)
         have hwz : (wordB (elt EvT cs j).1.toNat).size ≤ 10 := by rw [size_L]; exact word_len _ hop2
         refine use32x hop ?_
         simp (maxSteps:=9^9) only [C30, go_sem, Int.reduceLT, Int.reduceLE, Int.reduceEq, Int.reduceNe, Int.reduceAdd, Int.reduceSub, Int.reduceMul, Int.reduceToNat, Int.reduceNeg, Nat.reduceEqDiff, Nat.reduceLeDiff, Nat.reduceSub, Nat.reduceMul, Nat.reduceLT, Nat.reduceBEq, Nat.reduceAdd]
         have e5 := prC_next h0
         have e6 : prN ns ++ prC (cs.take (j + 1)) = (x :: r) ++ lnL (elt EvT cs j) := by rw [e5, ← List.append_assoc, hp]
         have hwL : (wordB (elt EvT cs j).1.toNat).data.toList.length ≤ 10 := by rw [← size_L]; exact hwz
         refine ⟨⟨by omega, by omega⟩, ?_⟩
         intro c1 hc1
         refine swn hc1 (fun h1 => ?_) (fun h1 => ?_)
         ·refine use33 hr0 ?_
          simp (maxSteps:=9^9) only [C30, go_sem, Int.reduceLT, Int.reduceLE, Int.reduceEq, Int.reduceNe, Int.reduceAdd, Int.reduceSub, Int.reduceMul, Int.reduceToNat, Int.reduceNeg, Nat.reduceEqDiff, Nat.reduceLeDiff, Nat.reduceSub, Nat.reduceMul, Nat.reduceLT, Nat.reduceBEq, Nat.reduceAdd]
          have hil := itoa_len hr0
          have hiz : (itoaB (elt EvT cs j).2).size = (Lib.itoa (elt EvT cs j).2).length := bsOf_size _
          refine ⟨by show 1 + _ ≤ _; omega, ?_⟩
          intro u hu
          have hub := ln_bytes hu
          have huz := size_L u
          rw [hub, List.length_cons] at huz
          refine ⟨⟨by (try simp only [List.length_append]); omega, by omega⟩, ⟨by simp only [List.length_append, ← size_L]; omega, by show 1 ≤ _; omega⟩, ?_⟩
          rintro _ _ m1 hm1
          rw [w64 (by omega)] at hm1
          refine cntA_next h0 ?_
          rw [hm1, hub]
          have e7 : argL (elt EvT cs j) = 32 :: Lib.itoa (elt EvT cs j).2 := if_neg h1
          show _ = SS.mk _ (bS (prN ns ++ prC (cs.take (j + 1))))
          rw [bS_row (m := x :: (r ++ (wordB (elt EvT cs j).1.toNat).data.toList ++ (32 :: Lib.itoa (elt EvT cs j).2) ++ [10])) (by rw [e6]; unfold lnL; rw [e7]; unfold wordL; simp only [List.append_assoc, List.cons_append, List.nil_append]) (by simp)]
          rfl
         ·refine ⟨⟨by (try simp only [List.length_append]); omega, by show 1 ≤ _; omega⟩, ?_⟩
          rintro _ _ m1 hm1
          rw [w64 (by omega)] at hm1
          refine cntA_next h0 ?_
          rw [hm1]
          have e7 : argL (elt EvT cs j) = [] := if_pos h1
          show _ = SS.mk _ (bS (prN ns ++ prC (cs.take (j + 1))))
          rw [bS_row (m := x :: (r ++ (wordB (elt EvT cs j).1.toNat).data.toList ++ [10])) (by rw [e6]; unfold lnL; rw [e7]; unfold wordL; simp only [List.append_assoc, List.cons_append, List.nil_append]) (by simp)]
          rfl
        ·have e8 : prN ns ++ prC cs = x :: r := by rw [← hp, List.take_of_length_le (by omega)]
         unfold printL at hT
         rw [e8] at hT
         exact ⟨⟨by simp, by omega⟩, hT⟩
    ·obtain ⟨x, r, e⟩ : ∃ x r, prN (ns.take i) = x :: r := by
      obtain ⟨j, rfl⟩ : ∃ j, i = j + 1 := ⟨i - 1, by omega⟩
      rw [prN_next (by omega)]
      cases prN (ns.take j) with
      | nil => exact ⟨_, _, rfl⟩
      | cons x r => exact ⟨x, _, rfl⟩
     have hlen : (x :: r).length ≤ 9000 := by
      rw [← e]
      have h1 := prN_len (ns := ns.take i) (List.all_eq_true.2 fun x hx => List.all_eq_true.1 hk x (List.mem_of_mem_take hx))
      rw [List.length_take] at h1
      omega
     unfold L14
     simp (maxSteps:=9^9) only [cntA_I, e, bS1_cons, go_sem, Int.reduceLT, Int.reduceLE, Int.reduceEq, Int.reduceNe, Int.reduceAdd, Int.reduceSub, Int.reduceMul, Int.reduceToNat, Int.reduceNeg, Nat.reduceEqDiff, Nat.reduceLeDiff, Nat.reduceSub, Nat.reduceMul, Nat.reduceLT, Nat.reduceBEq, Nat.reduceAdd]
     intro c hc
     refine swd hc (fun h0 => ?_) (fun h0 => ?_)
     ·have h0 : i < ns.length := by omega
      refine nd_intro (by omega) ?_
      have hk0 := List.all_eq_true.1 hk (elt .str ns i) (elt_mem (t := .str) h0)
      have hkz := key_size hk0
      have hhz := hexB_size (elt .str ns i)
      refine use31 (by omega) ?_
      simp (maxSteps:=9^9) only [C30, go_sem, Int.reduceLT, Int.reduceLE, Int.reduceEq, Int.reduceNe, Int.reduceAdd, Int.reduceSub, Int.reduceMul, Int.reduceToNat, Int.reduceNeg, Nat.reduceEqDiff, Nat.reduceLeDiff, Nat.reduceSub, Nat.reduceMul, Nat.reduceLT, Nat.reduceBEq, Nat.reduceAdd]
      refine ⟨by show 5 + _ ≤ _; omega, ?_⟩
      intro u hu
      have huz : u.size = 5 + (hexB (elt .str ns i)).size := by rw [hu, ByteArray.size_append]; rfl
      refine ⟨by show _ + 1 ≤ _; omega, ?_⟩
      intro u2 hu2
      have hb := nm_bytes hu hu2
      have hn := nmL_len hk0
      have huz2 := size_L u2
      rw [hb] at huz2
      refine ⟨by simp only [List.length_cons] at hlen; omega, ?_⟩
      rintro _ _ m1 hm1
      rw [w64 (by omega)] at hm1
      refine cntA_next h0 ?_
      rw [hm1, hb]
      have e5 := prN_next h0
      rw [e] at e5
      rw [e5]
      rfl
     ·have hlast : ns.take i = ns := List.take_of_length_le (by omega)
      rintro _ _ _ rfl
      refine loop_intro (A := M14 ns cs) (0 : Nat) ?_ (Nat.zero_le _) ?_
      ·simp (maxSteps:=9^9) only [go_sem, Int.reduceLT, Int.reduceLE, Int.reduceEq, Int.reduceNe, Int.reduceAdd, Int.reduceSub, Int.reduceMul, Int.reduceToNat, Int.reduceNeg, Nat.reduceEqDiff, Nat.reduceLeDiff, Nat.reduceSub, Nat.reduceMul, Nat.reduceLT, Nat.reduceBEq, Nat.reduceAdd]
       have e9 : prN ns ++ prC (cs.take 0) = x :: r := by rw [hlast] at e; rw [← e, List.take_zero, prC_nil, List.append_nil]
       show _ = SS.mk _ (bS (prN ns ++ prC (cs.take 0)))
       rw [e9]
       rfl
      ·intro (j : Nat) (hj : j ≤ cs.length)
       have hlc : (prN ns ++ prC (cs.take j)).length ≤ 9000 := by
        have h1 := prN_len hk
        have h2 := prC_len (n := ns.length) (c := cs.length) (cs := cs.take j) (List.all_eq_true.2 fun x hx => List.all_eq_true.1 hi2 x (List.mem_of_mem_take hx)) (fun x hx => hr x (List.mem_of_mem_take hx))
        rw [List.length_take] at h2
        rw [List.length_append]
        omega
       cases hp : prN ns ++ prC (cs.take j) with
       | nil =>
        unfold M14
        simp (maxSteps:=9^9) only [cntA_I, hp, bS_nil, C34, go_sem, Int.reduceLT, Int.reduceLE, Int.reduceEq, Int.reduceNe, Int.reduceAdd, Int.reduceSub, Int.reduceMul, Int.reduceToNat, Int.reduceNeg, Nat.reduceEqDiff, Nat.reduceLeDiff, Nat.reduceSub, Nat.reduceMul, Nat.reduceLT, Nat.reduceBEq, Nat.reduceAdd]
        intro c hc
        refine swd hc (fun h0 => ?_) (fun h0 => ?_)
        ·have h0 : j < cs.length := by omega
         refine nd_intro (by omega) ?_
         obtain ⟨hop, hop2⟩ := ins_in (x := elt EvT cs j) (List.all_eq_true.1 hi2 _ (elt_mem (t := EvT) h0))
         have hr0 := hr _ (elt_mem (t := EvT) h0)
         have hwz : (wordB (elt EvT cs j).1.toNat).size ≤ 10 := by rw [size_L]; exact word_len _ hop2
         refine use32x hop ?_
         simp (maxSteps:=9^9) only [C30, go_sem, Int.reduceLT, Int.reduceLE, Int.reduceEq, Int.reduceNe, Int.reduceAdd, Int.reduceSub, Int.reduceMul, Int.reduceToNat, Int.reduceNeg, Nat.reduceEqDiff, Nat.reduceLeDiff, Nat.reduceSub, Nat.reduceMul, Nat.reduceLT, Nat.reduceBEq, Nat.reduceAdd]
         have e5 := prC_next h0
         have e6 : prN ns ++ prC (cs.take (j + 1)) = [] ++ lnL (elt EvT cs j) := by rw [e5, ← List.append_assoc, hp]
         have hwL : (wordB (elt EvT cs j).1.toNat).data.toList.length ≤ 10 := by rw [← size_L]; exact hwz
         refine ⟨by omega, ?_⟩
         intro c1 hc1
         refine swn hc1 (fun h1 => ?_) (fun h1 => ?_)
         ·refine use33 hr0 ?_
          simp (maxSteps:=9^9) only [C30, go_sem, Int.reduceLT, Int.reduceLE, Int.reduceEq, Int.reduceNe, Int.reduceAdd, Int.reduceSub, Int.reduceMul, Int.reduceToNat, Int.reduceNeg, Nat.reduceEqDiff, Nat.reduceLeDiff, Nat.reduceSub, Nat.reduceMul, Nat.reduceLT, Nat.reduceBEq, Nat.reduceAdd]
          have hil := itoa_len hr0
          have hiz : (itoaB (elt EvT cs j).2).size = (Lib.itoa (elt EvT cs j).2).length := bsOf_size _
          refine ⟨by show 1 + _ ≤ _; omega, ?_⟩
          intro u hu
          have hub := ln_bytes hu
          have huz := size_L u
          rw [hub, List.length_cons] at huz
          refine ⟨⟨by (try simp only [List.length_append]); omega, by omega⟩, ⟨by simp only [List.length_append, ← size_L]; omega, by show 1 ≤ _; omega⟩, ?_⟩
          rintro _ _ m1 hm1
          rw [w64 (by omega)] at hm1
          refine cntA_next h0 ?_
          rw [hm1, hub]
          have e7 : argL (elt EvT cs j) = 32 :: Lib.itoa (elt EvT cs j).2 := if_neg h1
          show _ = SS.mk _ (bS (prN ns ++ prC (cs.take (j + 1))))
          rw [bS_row (m := (wordB (elt EvT cs j).1.toNat).data.toList ++ (32 :: Lib.itoa (elt EvT cs j).2) ++ [10]) (by rw [e6]; unfold lnL; rw [e7]; unfold wordL; simp only [List.append_assoc, List.cons_append, List.nil_append]) (by simp)]
          rfl
         ·refine ⟨⟨by (try simp only [List.length_append]); omega, by show 1 ≤ _; omega⟩, ?_⟩
          rintro _ _ m1 hm1
          rw [w64 (by omega)] at hm1
          refine cntA_next h0 ?_
          rw [hm1]
          have e7 : argL (elt EvT cs j) = [] := if_pos h1
          show _ = SS.mk _ (bS (prN ns ++ prC (cs.take (j + 1))))
          rw [bS_row (m := (wordB (elt EvT cs j).1.toNat).data.toList ++ [10]) (by rw [e6]; unfold lnL; rw [e7]; unfold wordL; simp only [List.append_assoc, List.cons_append, List.nil_append]) (by simp)]
          rfl
        ·have e8 : prN ns ++ prC cs = [] := by rw [← hp, List.take_of_length_le (by omega)]
         unfold printL at hT
         rw [e8] at hT
         exact hT
       | cons x r =>
        rw [hp, List.length_cons] at hlc
        unfold M14
        simp (maxSteps:=9^9) only [cntA_I, hp, bS_cons, C34, go_sem, Int.reduceLT, Int.reduceLE, Int.reduceEq, Int.reduceNe, Int.reduceAdd, Int.reduceSub, Int.reduceMul, Int.reduceToNat, Int.reduceNeg, Nat.reduceEqDiff, Nat.reduceLeDiff, Nat.reduceSub, Nat.reduceMul, Nat.reduceLT, Nat.reduceBEq, Nat.reduceAdd]
        intro c hc
        refine swd hc (fun h0 => ?_) (fun h0 => ?_)
        ·have h0 : j < cs.length := by omega
         refine nd_intro (by omega) ?_
         obtain ⟨hop, hop2⟩ := ins_in (x := elt EvT cs j) (List.all_eq_true.1 hi2 _ (elt_mem (t := EvT) h0))
         have hr0 := hr _ (elt_mem (t := EvT) h0)
         have hwz : (wordB (elt EvT cs j).1.toNat).size ≤ 10 := by rw [size_L]; exact word_len _ hop2
         refine use32x hop ?_
         simp (maxSteps:=9^9) only [C30, go_sem, Int.reduceLT, Int.reduceLE, Int.reduceEq, Int.reduceNe, Int.reduceAdd, Int.reduceSub, Int.reduceMul, Int.reduceToNat, Int.reduceNeg, Nat.reduceEqDiff, Nat.reduceLeDiff, Nat.reduceSub, Nat.reduceMul, Nat.reduceLT, Nat.reduceBEq, Nat.reduceAdd]
         have e5 := prC_next h0
         have e6 : prN ns ++ prC (cs.take (j + 1)) = (x :: r) ++ lnL (elt EvT cs j) := by rw [e5, ← List.append_assoc, hp]
         have hwL : (wordB (elt EvT cs j).1.toNat).data.toList.length ≤ 10 := by rw [← size_L]; exact hwz
         refine ⟨⟨by omega, by omega⟩, ?_⟩
         intro c1 hc1
         refine swn hc1 (fun h1 => ?_) (fun h1 => ?_)
         ·refine use33 hr0 ?_
          simp (maxSteps:=9^9) only [C30, go_sem, Int.reduceLT, Int.reduceLE, Int.reduceEq, Int.reduceNe, Int.reduceAdd, Int.reduceSub, Int.reduceMul, Int.reduceToNat, Int.reduceNeg, Nat.reduceEqDiff, Nat.reduceLeDiff, Nat.reduceSub, Nat.reduceMul, Nat.reduceLT, Nat.reduceBEq, Nat.reduceAdd]
          have hil := itoa_len hr0
          have hiz : (itoaB (elt EvT cs j).2).size = (Lib.itoa (elt EvT cs j).2).length := bsOf_size _
          refine ⟨by show 1 + _ ≤ _; omega, ?_⟩
          intro u hu
          have hub := ln_bytes hu
          have huz := size_L u
          rw [hub, List.length_cons] at huz
          refine ⟨⟨by (try simp only [List.length_append]); omega, by omega⟩, ⟨by simp only [List.length_append, ← size_L]; omega, by show 1 ≤ _; omega⟩, ?_⟩
          rintro _ _ m1 hm1
          rw [w64 (by omega)] at hm1
          refine cntA_next h0 ?_
          rw [hm1, hub]
          have e7 : argL (elt EvT cs j) = 32 :: Lib.itoa (elt EvT cs j).2 := if_neg h1
          show _ = SS.mk _ (bS (prN ns ++ prC (cs.take (j + 1))))
          rw [bS_row (m := x :: (r ++ (wordB (elt EvT cs j).1.toNat).data.toList ++ (32 :: Lib.itoa (elt EvT cs j).2) ++ [10])) (by rw [e6]; unfold lnL; rw [e7]; unfold wordL; simp only [List.append_assoc, List.cons_append, List.nil_append]) (by simp)]
          rfl
         ·refine ⟨⟨by (try simp only [List.length_append]); omega, by show 1 ≤ _; omega⟩, ?_⟩
          rintro _ _ m1 hm1
          rw [w64 (by omega)] at hm1
          refine cntA_next h0 ?_
          rw [hm1]
          have e7 : argL (elt EvT cs j) = [] := if_pos h1
          show _ = SS.mk _ (bS (prN ns ++ prC (cs.take (j + 1))))
          rw [bS_row (m := x :: (r ++ (wordB (elt EvT cs j).1.toNat).data.toList ++ [10])) (by rw [e6]; unfold lnL; rw [e7]; unfold wordL; simp only [List.append_assoc, List.cons_append, List.nil_append]) (by simp)]
          rfl
        ·have e8 : prN ns ++ prC cs = x :: r := by rw [← hp, List.take_of_length_le (by omega)]
         unfold printL at hT
         rw [e8] at hT
         exact ⟨⟨by simp, by omega⟩, hT⟩
 ·exact h.elim
end Go.V
namespace Go.V
open Go.Proofs
set_option maxRecDepth 100000
set_option maxHeartbeats 8000000
set_option linter.unusedSimpArgs false
set_option linter.unnecessarySimpa false
set_option linter.unusedVariables false
theorem bL (l : List UInt8) : (bsOf l).data.toList = l := by simp [bsOf]
def prOut (K : SV → List SB → Prop) (ns : List ByteArray) (cs : List EvT.den) : Prop := (formP ns cs = false → K (.tup [.str ByteArray.empty, .int .i64 1]) []) ∧ (formP ns cs = true → K (.tup [.str (bsOf (printL ns cs)), .int .i64 0]) [])
def C14 : Contract := fun args hp K => match args, hp with
 | [.agg [.sl true 16 .str ns, .sl true 16 (.pair (.int .i64) (.int .i64)) cs]], [] => prOut K ns cs
 | _, _ => False
theorem s14 : Sound Tryd.prog 14 C14 := by
 intro args hp K h E vs hs hg hd
 unfold C14 at h
 split at h
 ·rename_i ns cs
  have hr : ∀ x ∈ cs, inR .i64 x.2 := by
   simp only [denL] at hd
   obtain ⟨v, r, rfl, h1, rfl⟩ := hd
   exact agg2_in rfl h1
  exact s14a [.agg [.sl true 16 .str ns, .sl true 16 EvT cs]] [] K ⟨hr, h⟩ E vs hs hg hd
 ·exact h.elim
theorem opK_pos {x : Int} (h : x.toNat < 24) : (0 : Int) ≤ opK x := by
 have : ∀ j, j < 24 → (0 : Int) ≤ opK (j : Nat) := by decide +kernel
 exact this x.toNat h
def C16a : Contract := fun args hp K => match args, hp with
 | [.agg [.sl true 16 .str ns, .sl true 16 (.pair (.int .i64) (.int .i64)) cs]], [] => (∀ x ∈ (cs : List EvT.den), inR .i64 x.2) ∧ prOut K ns cs
 | _, _ => False
def C16 : Contract := fun args hp K => match args, hp with
 | [.agg [.sl true 16 .str ns, .sl true 16 (.pair (.int .i64) (.int .i64)) cs]], [] => prOut K ns cs
 | _, _ => False
def L16 (ns : List ByteArray) (cs : List EvT.den) : LoopAnn := cntA (fun i => ⟨[(1, .ptr 0 0), (4, .str (bsOf (prN (ns.take i)))), (14, .int .i64 ns.length), (15, .int .i64 i)], [.struct [.sl true 16 .str ns, .sl true 16 EvT cs]]⟩) ns.length
def M16 (ns : List ByteArray) (cs : List EvT.den) : LoopAnn := cntA (fun i => ⟨[(1, .ptr 0 0), (4, .str (bsOf (prN ns ++ prC (cs.take i)))), (31, .int .i64 cs.length), (32, .int .i64 i)], [.struct [.sl true 16 .str ns, .sl true 16 EvT cs]]⟩) cs.length
attribute [local irreducible] rc
theorem s16a : Sound Tryd.prog 16 C16a := by
 refine sound_of_okF ok16 (.cons s18 (callable_of_okF ok18) (.cons s35 (callable_of_okF ok35) (.cons s36 (callable_of_okF ok36) (.cons s33 ⟨_, Tryd.func33, rfl, by decide⟩ .nil)))) ?_
 intro args hp K h
 unfold C16a at h
 split at h
 ·rename_i ns cs
  obtain ⟨hr, hF, hT⟩ := h
  have hmx := maxLen_val
  refine ⟨by simp, [(1, L16 ns cs), (2, M16 ns cs)], ?_⟩
  simp (maxSteps:=9^9) only [a16, r16, go_sem, Int.reduceLT, Int.reduceLE, Int.reduceEq, Int.reduceNe, Int.reduceAdd, Int.reduceSub, Int.reduceMul, Int.reduceToNat, Int.reduceNeg, Nat.reduceEqDiff, Nat.reduceLeDiff, Nat.reduceSub, Nat.reduceMul, Nat.reduceLT, Nat.reduceBEq, Nat.reduceAdd]
  refine use18 ?_
  cases hf : formP ns cs with
  | false =>
   simp (maxSteps:=9^9) only [go_sem, Int.reduceLT, Int.reduceLE, Int.reduceEq, Int.reduceNe, Int.reduceAdd, Int.reduceSub, Int.reduceMul, Int.reduceToNat, Int.reduceNeg, Nat.reduceEqDiff, Nat.reduceLeDiff, Nat.reduceSub, Nat.reduceMul, Nat.reduceLT, Nat.reduceBEq, Nat.reduceAdd]
   exact hF hf
  | true =>
   have hT := hT hf
   obtain ⟨⟨hn1, hn2⟩, hk, hi2⟩ := formP_iff.1 hf
   simp (maxSteps:=9^9) only [go_sem, Int.reduceLT, Int.reduceLE, Int.reduceEq, Int.reduceNe, Int.reduceAdd, Int.reduceSub, Int.reduceMul, Int.reduceToNat, Int.reduceNeg, Nat.reduceEqDiff, Nat.reduceLeDiff, Nat.reduceSub, Nat.reduceMul, Nat.reduceLT, Nat.reduceBEq, Nat.reduceAdd]
   rintro _ _ m rfl
   refine loop_intro (A := L16 ns cs) (0 : Nat) ?_ (Nat.zero_le _) ?_
   ·simp (maxSteps:=9^9) only [go_sem, Int.reduceLT, Int.reduceLE, Int.reduceEq, Int.reduceNe, Int.reduceAdd, Int.reduceSub, Int.reduceMul, Int.reduceToNat, Int.reduceNeg, Nat.reduceEqDiff, Nat.reduceLeDiff, Nat.reduceSub, Nat.reduceMul, Nat.reduceLT, Nat.reduceBEq, Nat.reduceAdd]
    rfl
   ·intro (i : Nat) (hi : i ≤ ns.length)
    have hlc : (prN (ns.take i)).length ≤ 9000 := by
     have h1 := prN_len (ns := ns.take i) (List.all_eq_true.2 fun x hx => List.all_eq_true.1 hk x (List.mem_of_mem_take hx))
     rw [List.length_take] at h1
     omega
    have hsz := bsOf_size (prN (ns.take i))
    unfold L16
    simp (maxSteps:=9^9) only [cntA_I, go_sem, Int.reduceLT, Int.reduceLE, Int.reduceEq, Int.reduceNe, Int.reduceAdd, Int.reduceSub, Int.reduceMul, Int.reduceToNat, Int.reduceNeg, Nat.reduceEqDiff, Nat.reduceLeDiff, Nat.reduceSub, Nat.reduceMul, Nat.reduceLT, Nat.reduceBEq, Nat.reduceAdd]
    intro c hc
    refine swd hc (fun h0 => ?_) (fun h0 => ?_)
    ·have h0 : i < ns.length := by omega
     have hk0 := List.all_eq_true.1 hk (elt .str ns i) (elt_mem (t := .str) h0)
     have hkz := key_size hk0
     have hhz := hexB_size (elt .str ns i)
     refine ⟨by show _ + 5 ≤ _; omega, ?_⟩
     intro u hu
     have huz : u.size = (prN (ns.take i)).length + 5 := by rw [hu, ByteArray.size_append, hsz]; rfl
     refine nd_intro h0 ?_
     refine use35 (by omega) ?_
     simp (maxSteps:=9^9) only [go_sem, Int.reduceLT, Int.reduceLE, Int.reduceEq, Int.reduceNe, Int.reduceAdd, Int.reduceSub, Int.reduceMul, Int.reduceToNat, Int.reduceNeg, Nat.reduceEqDiff, Nat.reduceLeDiff, Nat.reduceSub, Nat.reduceMul, Nat.reduceLT, Nat.reduceBEq, Nat.reduceAdd]
     refine ⟨by omega, ?_⟩
     intro u2 hu2
     have huz2 : u2.size = u.size + (hexB (elt .str ns i)).size := by rw [hu2, ByteArray.size_append]
     refine ⟨by show _ + 1 ≤ _; omega, ?_⟩
     intro u3 hu3
     rintro _ _ m1 hm1
     rw [w64 (by omega)] at hm1
     refine cntA_next h0 ?_
     have hb : u3 = bsOf (prN (ns.take (i + 1))) := by
      rw [eq_comm, bs_eq, hu3, hu2, hu, bs_app, bs_app, bs_app, prN_next h0]
      simp only [List.append_assoc]
      rfl
     rw [hm1, hb]
     rfl
    ·have hlast : ns.take i = ns := List.take_of_length_le (by omega)
     rintro _ _ _ rfl
     refine loop_intro (A := M16 ns cs) (0 : Nat) ?_ (Nat.zero_le _) ?_
     ·simp (maxSteps:=9^9) only [go_sem, Int.reduceLT, Int.reduceLE, Int.reduceEq, Int.reduceNe, Int.reduceAdd, Int.reduceSub, Int.reduceMul, Int.reduceToNat, Int.reduceNeg, Nat.reduceEqDiff, Nat.reduceLeDiff, Nat.reduceSub, Nat.reduceMul, Nat.reduceLT, Nat.reduceBEq, Nat.reduceAdd]
      show _ = SS.mk [(1, .ptr 0 0), (4, .str (bsOf (prN ns ++ prC (cs.take 0)))), (31, .int .i64 cs.length), (32, .int .i64 (0 : Nat))] [.struct [.sl true 16 .str ns, .sl true 16 EvT cs]]
      rw [hlast, List.take_zero, prC_nil, List.append_nil]
      rfl
     ·intro (j : Nat) (hj : j ≤ cs.length)
      have hlc : (prN ns ++ prC (cs.take j)).length ≤ 9000 := by
       have h1 := prN_len hk
       have h2 := prC_len (n := ns.length) (c := cs.length) (cs := cs.take j) (List.all_eq_true.2 fun x hx => List.all_eq_true.1 hi2 x (List.mem_of_mem_take hx)) (fun x hx => hr x (List.mem_of_mem_take hx))
       rw [List.length_take] at h2
       rw [List.length_append]
       omega
      have hsz := bsOf_size (prN ns ++ prC (cs.take j))
      unfold M16
      simp (maxSteps:=9^9) only [cntA_I, go_sem, Int.reduceLT, Int.reduceLE, Int.reduceEq, Int.reduceNe, Int.reduceAdd, Int.reduceSub, Int.reduceMul, Int.reduceToNat, Int.reduceNeg, Nat.reduceEqDiff, Nat.reduceLeDiff, Nat.reduceSub, Nat.reduceMul, Nat.reduceLT, Nat.reduceBEq, Nat.reduceAdd]
      intro c hc
      refine swd hc (fun h0 => ?_) (fun h0 => ?_)
      ·have h0 : j < cs.length := by omega
       obtain ⟨hop, hop2⟩ := ins_in (x := elt EvT cs j) (List.all_eq_true.1 hi2 _ (elt_mem (t := EvT) h0))
       have hr0 := hr _ (elt_mem (t := EvT) h0)
       have hwz : (wordB (elt EvT cs j).1.toNat).size ≤ 10 := by rw [size_L]; exact word_len _ hop2
       refine nd_intro (by omega) ?_
       refine use36x hop ?_
       simp (maxSteps:=9^9) only [go_sem, Int.reduceLT, Int.reduceLE, Int.reduceEq, Int.reduceNe, Int.reduceAdd, Int.reduceSub, Int.reduceMul, Int.reduceToNat, Int.reduceNeg, Nat.reduceEqDiff, Nat.reduceLeDiff, Nat.reduceSub, Nat.reduceMul, Nat.reduceLT, Nat.reduceBEq, Nat.reduceAdd]
       have hil := itoa_len hr0
       have hiz : (itoaB (elt EvT cs j).2).size = (Lib.itoa (elt EvT cs j).2).length := bsOf_size _
       refine ⟨by omega, ?_⟩
       intro u hu
       have huz : u.size = (prN ns ++ prC (cs.take j)).length + (wordB (elt EvT cs j).1.toNat).size := by rw [hu, ByteArray.size_append, hsz]
       have e5 : prN ns ++ prC (cs.take (j + 1)) = prN ns ++ prC (cs.take j) ++ lnL (elt EvT cs j) := by rw [prC_next h0, ← List.append_assoc]
       intro c1 hc1
       have ho := opK_pos hop2
       refine swd hc1 (fun h1 => ?_) (fun h1 => ?_)
       ·have e7 : argL (elt EvT cs j) = 32 :: Lib.itoa (elt EvT cs j).2 := if_neg (by omega)
        refine ⟨by show _ + 1 ≤ _; omega, ?_⟩
        intro u2 hu2
        have huz2 : u2.size = u.size + 1 := by rw [hu2, ByteArray.size_append]; rfl
        refine nd_intro h0 ?_
        refine use33 hr0 ?_
        simp (maxSteps:=9^9) only [go_sem, Int.reduceLT, Int.reduceLE, Int.reduceEq, Int.reduceNe, Int.reduceAdd, Int.reduceSub, Int.reduceMul, Int.reduceToNat, Int.reduceNeg, Nat.reduceEqDiff, Nat.reduceLeDiff, Nat.reduceSub, Nat.reduceMul, Nat.reduceLT, Nat.reduceBEq, Nat.reduceAdd]
        refine ⟨by omega, ?_⟩
        intro u3 hu3
        have huz3 : u3.size = u2.size + (itoaB (elt EvT cs j).2).size := by rw [hu3, ByteArray.size_append]
        refine ⟨by show _ + 1 ≤ _; omega, ?_⟩
        intro u4 hu4
        rintro _ _ m1 hm1
        rw [w64 (by omega)] at hm1
        refine cntA_next h0 ?_
        have hb : u4 = bsOf (prN ns ++ prC (cs.take (j + 1))) := by
         rw [eq_comm, bs_eq, hu4, hu3, hu2, hu, bs_app, bs_app, bs_app, bs_app, bL, e5]
         unfold lnL
         rw [e7]
         simp only [List.append_assoc, List.cons_append, List.nil_append]
         rfl
        rw [hm1, hb]
        rfl
       ·have e7 : argL (elt EvT cs j) = [] := if_pos (by omega)
        refine ⟨by show _ + 1 ≤ _; omega, ?_⟩
        intro u4 hu4
        rintro _ _ m1 hm1
        rw [w64 (by omega)] at hm1
        refine cntA_next h0 ?_
        have hb : u4 = bsOf (prN ns ++ prC (cs.take (j + 1))) := by
         rw [eq_comm, bs_eq, hu4, hu, bs_app, bs_app, bL, e5]
         unfold lnL
         rw [e7]
         simp only [List.append_assoc, List.cons_append, List.nil_append]
         rfl
        rw [hm1, hb]
        rfl
      ·unfold printL at hT
       rw [List.take_of_length_le (by omega)]
       exact hT
 ·exact h.elim
theorem s16 : Sound Tryd.prog 16 C16 := by
 intro args hp K h E vs hs hg hd
 unfold C16 at h
 split at h
 ·rename_i ns cs
  have hr : ∀ x ∈ cs, inR .i64 x.2 := by
   simp only [denL] at hd
   obtain ⟨v, r, rfl, h1, rfl⟩ := hd
   exact agg2_in rfl h1
  exact s16a [.agg [.sl true 16 .str ns, .sl true 16 (.pair (.int .i64) (.int .i64)) cs]] [] K ⟨hr, h⟩ E vs hs hg hd
 ·exact h.elim
end Go.V
namespace Go.V
open Go.Proofs
set_option maxRecDepth 100000
set_option maxHeartbeats 8000000
set_option linter.unusedSimpArgs false
set_option linter.unnecessarySimpa false
set_option linter.unusedVariables false
def C40 : Contract := fun args hp K => match args, hp with
 | [.sl true 16 .str n1, .sl true 16 .str n2], [] => K (.bool (decide ((n1 : List ByteArray) = n2))) []
 | _, _ => False
def C41 : Contract := fun args hp K => match args, hp with
 | [.sl true 16 (.pair (.int .i64) (.int .i64)) c1, .sl true 16 (.pair (.int .i64) (.int .i64)) c2], [] => K (.bool (decide ((c1 : List EvT.den) = c2))) []
 | _, _ => False
def L40 (n1 n2 : List ByteArray) : LoopAnn := { G := Nat, I := fun i => ⟨[(0, .sl true 16 .str n1), (1, .sl true 16 .str n2), (12, .int .i64 n1.length), (13, .int .i64 i)], []⟩, R := fun _ i => i ≤ n1.length ∧ n1.take i = n2.take i, μ := fun i => n1.length - i }
theorem L40_I {n1 n2 : List ByteArray} (i : Nat) : (L40 n1 n2).I i = ⟨[(0, .sl true 16 .str n1), (1, .sl true 16 .str n2), (12, .int .i64 n1.length), (13, .int .i64 i)], []⟩ := rfl
def L41 (c1 c2 : List EvT.den) : LoopAnn := { G := Nat, I := fun i => ⟨[(0, .sl true 16 EvT c1), (1, .sl true 16 EvT c2), (12, .int .i64 c1.length), (13, .int .i64 i)], []⟩, R := fun _ i => i ≤ c1.length ∧ c1.take i = c2.take i, μ := fun i => c1.length - i }
theorem L41_I {c1 c2 : List EvT.den} (i : Nat) : (L41 c1 c2).I i = ⟨[(0, .sl true 16 EvT c1), (1, .sl true 16 EvT c2), (12, .int .i64 c1.length), (13, .int .i64 i)], []⟩ := rfl
attribute [local irreducible] rc
theorem s40 : Sound Tryd.prog 40 C40 := by
 refine sound_of_okF ok40 .nil ?_
 intro args hp K h
 unfold C40 at h
 split at h
 ·rename_i n1 n2
  have hmx := maxLen_val
  refine ⟨by simp, [(1, L40 n1 n2)], ?_⟩
  simp (maxSteps:=9^9) only [a40, r40, go_sem, Int.reduceLT, Int.reduceLE, Int.reduceEq, Int.reduceNe, Int.reduceAdd, Int.reduceSub, Int.reduceMul, Int.reduceToNat, Int.reduceNeg, Nat.reduceEqDiff, Nat.reduceLeDiff, Nat.reduceSub, Nat.reduceMul, Nat.reduceLT, Nat.reduceBEq, Nat.reduceAdd]
  have hf1 : ¬ (n1 : List ByteArray) = n2 → K (.bool false) [] := fun hne => by
   rw [decide_eq_false hne] at h; exact h
  rintro _ _ m hm _ _ m2 hm2 c3 hc3
  refine swn hc3 (fun h0 => hf1 (fun e => h0 (by rw [hm, hm2, e]))) (fun h0 => ?_)
  have hl1 : n1.length = n2.length := by omega
  rintro _ _ _ rfl
  refine loop_intro (A := L40 n1 n2) (0 : Nat) ?_ ⟨by simp, by simp⟩ ?_
  ·simp (maxSteps:=9^9) only [L40_I, go_sem, Int.reduceLT, Int.reduceLE, Int.reduceEq, Int.reduceNe, Int.reduceAdd, Int.reduceSub, Int.reduceMul, Int.reduceToNat, Int.reduceNeg, Nat.reduceEqDiff, Nat.reduceLeDiff, Nat.reduceSub, Nat.reduceMul, Nat.reduceLT, Nat.reduceBEq, Nat.reduceAdd]
   rfl
  ·rintro (i : Nat) (⟨g1, g2⟩ : i ≤ n1.length ∧ (n1 : List ByteArray).take i = (n2 : List ByteArray).take i)
   simp (maxSteps:=9^9) only [L40_I, go_sem, Int.reduceLT, Int.reduceLE, Int.reduceEq, Int.reduceNe, Int.reduceAdd, Int.reduceSub, Int.reduceMul, Int.reduceToNat, Int.reduceNeg, Nat.reduceEqDiff, Nat.reduceLeDiff, Nat.reduceSub, Nat.reduceMul, Nat.reduceLT, Nat.reduceBEq, Nat.reduceAdd]
   intro c5 hc5
   refine swd hc5 (fun h2 => ?_) (fun h2 => ?_)
   ·refine nd_intro h2 (nd_intro (by omega) ?_)
    intro c6 hc6
    refine swn hc6 (fun h3 => hf1 (fun e => h3 (by rw [e]))) (fun h3 => ?_)
    rintro _ _ m5 hm5
    rw [w64 (by omega)] at hm5
    rw [hm5, show (i : Int) + 1 = ((i + 1 : Nat) : Int) by omega]
    exact lpE_intro (A := L40 n1 n2) (i + 1 : Nat) rfl ⟨h2, take_next (t := .str) h2 (by omega) g2 h3⟩ (by show n1.length - (i + 1) < n1.length - i; omega)
   ·have e1 : (n1 : List ByteArray) = n2 := by
     rw [List.take_of_length_le (by omega), List.take_of_length_le (by omega)] at g2
     exact g2
    rw [decide_eq_true e1] at h
    exact h
 ·exact h.elim
theorem s41 : Sound Tryd.prog 41 C41 := by
 refine sound_of_okF ok41 .nil ?_
 intro args hp K h
 unfold C41 at h
 split at h
 ·rename_i c1 c2
  have hmx := maxLen_val
  refine ⟨by simp, [(1, L41 c1 c2)], ?_⟩
  simp (maxSteps:=9^9) only [a41, r41, go_sem, Int.reduceLT, Int.reduceLE, Int.reduceEq, Int.reduceNe, Int.reduceAdd, Int.reduceSub, Int.reduceMul, Int.reduceToNat, Int.reduceNeg, Nat.reduceEqDiff, Nat.reduceLeDiff, Nat.reduceSub, Nat.reduceMul, Nat.reduceLT, Nat.reduceBEq, Nat.reduceAdd]
  have hf2 : ¬ (c1 : List EvT.den) = c2 → K (.bool false) [] := fun hne => by
   rw [decide_eq_false hne] at h; exact h
  rintro _ _ m hm _ _ m2 hm2 c3 hc3
  refine swn hc3 (fun h0 => hf2 (fun e => h0 (by rw [hm, hm2, e]))) (fun h0 => ?_)
  have hl1 : c1.length = c2.length := by omega
  rintro _ _ _ rfl
  refine loop_intro (A := L41 c1 c2) (0 : Nat) ?_ ⟨by simp, by simp⟩ ?_
  ·simp (maxSteps:=9^9) only [L41_I, go_sem, Int.reduceLT, Int.reduceLE, Int.reduceEq, Int.reduceNe, Int.reduceAdd, Int.reduceSub, Int.reduceMul, Int.reduceToNat, Int.reduceNeg, Nat.reduceEqDiff, Nat.reduceLeDiff, Nat.reduceSub, Nat.reduceMul, Nat.reduceLT, Nat.reduceBEq, Nat.reduceAdd]
   rfl
  ·rintro (j : Nat) (⟨k1, k2⟩ : j ≤ c1.length ∧ (c1 : List EvT.den).take j = (c2 : List EvT.den).take j)
   simp (maxSteps:=9^9) only [L41_I, go_sem, Int.reduceLT, Int.reduceLE, Int.reduceEq, Int.reduceNe, Int.reduceAdd, Int.reduceSub, Int.reduceMul, Int.reduceToNat, Int.reduceNeg, Nat.reduceEqDiff, Nat.reduceLeDiff, Nat.reduceSub, Nat.reduceMul, Nat.reduceLT, Nat.reduceBEq, Nat.reduceAdd]
   intro c6 hc6
   refine swd hc6 (fun h3 => ?_) (fun h3 => ?_)
   ·refine nd_intro h3 (nd_intro (by omega) ?_)
    intro c7 hc7
    have hc7' : c7 = !decide (elt EvT c1 j = elt EvT c2 j) := by
     rw [hc7]
     congr 1
     rw [Bool.and_true, Bool.eq_iff_iff, Bool.and_eq_true, decide_eq_true_eq, decide_eq_true_eq, decide_eq_true_eq]
     exact ⟨fun h => Prod.ext h.1 h.2, fun h => by rw [h]; exact ⟨rfl, rfl⟩⟩
    refine swn hc7' (fun h4 => hf2 (fun e => h4 (by rw [e]))) (fun h4 => ?_)
    rintro _ _ m5 hm5
    rw [w64 (by omega)] at hm5
    rw [hm5, show (j : Int) + 1 = ((j + 1 : Nat) : Int) by omega]
    exact lpE_intro (A := L41 c1 c2) (j + 1 : Nat) rfl ⟨h3, take_next (t := EvT) h3 (by omega) k2 h4⟩ (by show c1.length - (j + 1) < c1.length - j; omega)
   ·have e1 : (c1 : List EvT.den) = c2 := by
     rw [List.take_of_length_le (by omega), List.take_of_length_le (by omega)] at k2
     exact k2
    rw [decide_eq_true e1] at h
    exact h
 ·exact h.elim
def C19 : Contract := fun args hp K => match args, hp with
 | [.agg [.sl true 16 .str n1, .sl true 16 (.pair (.int .i64) (.int .i64)) c1], .agg [.sl true 16 .str n2, .sl true 16 (.pair (.int .i64) (.int .i64)) c2]], [] => K (.bool (decide ((n1 : List ByteArray) = n2) && decide ((c1 : List EvT.den) = c2))) []
 | _, _ => False
theorem s19 : Sound Tryd.prog 19 C19 := by
 refine sound_of_okF ok19 (.cons s40 (callable_of_okF ok40) (.cons s41 (callable_of_okF ok41) .nil)) ?_
 intro args hp K h
 unfold C19 at h
 split at h
 ·rename_i n1 c1 n2 c2
  refine ⟨by simp, [], ?_⟩
  simp (maxSteps:=9^9) only [a19, r19, C40, C41, go_sem, Int.reduceLT, Int.reduceLE, Int.reduceEq, Int.reduceNe, Int.reduceAdd, Int.reduceSub, Int.reduceMul, Int.reduceToNat, Int.reduceNeg, Nat.reduceEqDiff, Nat.reduceLeDiff, Nat.reduceSub, Nat.reduceMul, Nat.reduceLT, Nat.reduceBEq, Nat.reduceAdd]
  by_cases e : (n1 : List ByteArray) = n2
  ·rw [decide_eq_true e, Bool.true_and] at h
   rw [decide_eq_true e]
   exact h
  ·rw [decide_eq_false e, Bool.false_and] at h
   rw [decide_eq_false e]
   exact h
 ·exact h.elim
theorem use13 {ns : List ByteArray} {cs : List EvT.den} {K : SV → List SB → Prop} (h : K (.bool (fewP ns cs)) []) : C13 [.agg [.sl true 16 .str ns, .sl true 16 EvT cs]] [] K := .inr ⟨_, _, rfl, .inr ⟨_, _, rfl, h⟩⟩
theorem use15 {ns : List ByteArray} {cs : List EvT.den} {K : SV → List SB → Prop} (h1 : ns.length ≤ 100000) (h2 : cs.length ≤ 100000) (h : K (.agg [.sl true 16 .str ns, .sl true 16 EvT cs]) []) : C15 [.agg [.sl true 16 .str ns, .sl true 16 EvT cs]] [] K := .inr ⟨_, _, rfl, .inr ⟨_, _, rfl, h1, h2, h⟩⟩
theorem use14 {ns : List ByteArray} {cs : List EvT.den} {K : SV → List SB → Prop} (h1 : formP ns cs = false → K (.tup [.str ByteArray.empty, .int .i64 1]) []) (h2 : formP ns cs = true → K (.tup [.str (bsOf (printL ns cs)), .int .i64 0]) []) : C14 [.agg [.sl true 16 .str ns, .sl true 16 EvT cs]] [] K := ⟨h1, h2⟩
theorem use16 {ns : List ByteArray} {cs : List EvT.den} {K : SV → List SB → Prop} (h1 : formP ns cs = false → K (.tup [.str ByteArray.empty, .int .i64 1]) []) (h2 : formP ns cs = true → K (.tup [.str (bsOf (printL ns cs)), .int .i64 0]) []) : C16 [.agg [.sl true 16 .str ns, .sl true 16 EvT cs]] [] K := ⟨h1, h2⟩
theorem use19 {n1 n2 : List ByteArray} {c1 c2 : List EvT.den} {K : SV → List SB → Prop} (h : K (.bool (decide (n1 = n2) && decide (c1 = c2))) []) : C19 [.agg [.sl true 16 .str n1, .sl true 16 EvT c1], .agg [.sl true 16 .str n2, .sl true 16 EvT c2]] [] K := h
def C5 : Contract := fun args hp K => match args, hp with
 | [.agg [.sl true 16 .str n1, .sl true 16 (.pair (.int .i64) (.int .i64)) c1], .agg [.sl true 16 .str n2, .sl true 16 (.pair (.int .i64) (.int .i64)) c2]], [] => K (.bool true) []
 | _, _ => False
theorem s5 : Sound Tryd.prog 5 C5 := by
 refine sound_of_okF ok5 (.cons s8 (callable_of_okF ok8) (.cons s13 (callable_of_okF ok13) (.cons s15 (callable_of_okF ok15) (.cons s14 (callable_of_okF ok14) (.cons s16 (callable_of_okF ok16) (.cons s17 (callable_of_okF ok17) (.cons s18 (callable_of_okF ok18) (.cons s19 (callable_of_okF ok19) (.cons s11 (callable_of_okF ok11) .nil))))))))) ?_
 intro args hp K h
 unfold C5 at h
 split at h
 ·rename_i n1 c1 n2 c2
  refine ⟨by simp, [], ?_⟩
  simp (maxSteps:=9^9) only [a5, r5, C8, go_sem, Int.reduceLT, Int.reduceLE, Int.reduceEq, Int.reduceNe, Int.reduceAdd, Int.reduceSub, Int.reduceMul, Int.reduceToNat, Int.reduceNeg, Nat.reduceEqDiff, Nat.reduceLeDiff, Nat.reduceSub, Nat.reduceMul, Nat.reduceLT, Nat.reduceBEq, Nat.reduceAdd]
  refine use13 ?_
  cases f1 : fewP n1 c1 with
  | false =>
   simp (maxSteps:=9^9) only [C8, go_sem, Int.reduceLT, Int.reduceLE, Int.reduceEq, Int.reduceNe, Int.reduceAdd, Int.reduceSub, Int.reduceMul, Int.reduceToNat, Int.reduceNeg, Nat.reduceEqDiff, Nat.reduceLeDiff, Nat.reduceSub, Nat.reduceMul, Nat.reduceLT, Nat.reduceBEq, Nat.reduceAdd]
   exact h
  | true =>
   simp (maxSteps:=9^9) only [go_sem, Int.reduceLT, Int.reduceLE, Int.reduceEq, Int.reduceNe, Int.reduceAdd, Int.reduceSub, Int.reduceMul, Int.reduceToNat, Int.reduceNeg, Nat.reduceEqDiff, Nat.reduceLeDiff, Nat.reduceSub, Nat.reduceMul, Nat.reduceLT, Nat.reduceBEq, Nat.reduceAdd]
   refine use13 ?_
   cases f2 : fewP n2 c2 with
   | false =>
    simp (maxSteps:=9^9) only [C8, go_sem, Int.reduceLT, Int.reduceLE, Int.reduceEq, Int.reduceNe, Int.reduceAdd, Int.reduceSub, Int.reduceMul, Int.reduceToNat, Int.reduceNeg, Nat.reduceEqDiff, Nat.reduceLeDiff, Nat.reduceSub, Nat.reduceMul, Nat.reduceLT, Nat.reduceBEq, Nat.reduceAdd]
    exact h
   | true =>
    simp (maxSteps:=9^9) only [go_sem, Int.reduceLT, Int.reduceLE, Int.reduceEq, Int.reduceNe, Int.reduceAdd, Int.reduceSub, Int.reduceMul, Int.reduceToNat, Int.reduceNeg, Nat.reduceEqDiff, Nat.reduceLeDiff, Nat.reduceSub, Nat.reduceMul, Nat.reduceLT, Nat.reduceBEq, Nat.reduceAdd]
    obtain ⟨⟨l1, z1⟩, l2⟩ := fewP_iff.1 f1
    obtain ⟨⟨l3, z3⟩, l4⟩ := fewP_iff.1 f2
    refine use15 (by omega) (by omega) ?_
    simp (maxSteps:=9^9) only [go_sem, Int.reduceLT, Int.reduceLE, Int.reduceEq, Int.reduceNe, Int.reduceAdd, Int.reduceSub, Int.reduceMul, Int.reduceToNat, Int.reduceNeg, Nat.reduceEqDiff, Nat.reduceLeDiff, Nat.reduceSub, Nat.reduceMul, Nat.reduceLT, Nat.reduceBEq, Nat.reduceAdd]
    cases fp : formP n1 c1 with
    | false =>
     refine use14 (fun _ => ?_) (fun h' => absurd h' (by rw [fp]; simp))
     simp (maxSteps:=9^9) only [go_sem, Int.reduceLT, Int.reduceLE, Int.reduceEq, Int.reduceNe, Int.reduceAdd, Int.reduceSub, Int.reduceMul, Int.reduceToNat, Int.reduceNeg, Nat.reduceEqDiff, Nat.reduceLeDiff, Nat.reduceSub, Nat.reduceMul, Nat.reduceLT, Nat.reduceBEq, Nat.reduceAdd]
     refine use16 (fun _ => ?_) (fun h' => absurd h' (by rw [fp]; simp))
     simp (maxSteps:=9^9) only [go_sem, Int.reduceLT, Int.reduceLE, Int.reduceEq, Int.reduceNe, Int.reduceAdd, Int.reduceSub, Int.reduceMul, Int.reduceToNat, Int.reduceNeg, Nat.reduceEqDiff, Nat.reduceLeDiff, Nat.reduceSub, Nat.reduceMul, Nat.reduceLT, Nat.reduceBEq, Nat.reduceAdd]
     refine use15 (by omega) (by omega) ?_
     simp (maxSteps:=9^9) only [go_sem, Int.reduceLT, Int.reduceLE, Int.reduceEq, Int.reduceNe, Int.reduceAdd, Int.reduceSub, Int.reduceMul, Int.reduceToNat, Int.reduceNeg, Nat.reduceEqDiff, Nat.reduceLeDiff, Nat.reduceSub, Nat.reduceMul, Nat.reduceLT, Nat.reduceBEq, Nat.reduceAdd]
     refine use17 ?_
     simp (maxSteps:=9^9) only [go_sem, Int.reduceLT, Int.reduceLE, Int.reduceEq, Int.reduceNe, Int.reduceAdd, Int.reduceSub, Int.reduceMul, Int.reduceToNat, Int.reduceNeg, Nat.reduceEqDiff, Nat.reduceLeDiff, Nat.reduceSub, Nat.reduceMul, Nat.reduceLT, Nat.reduceBEq, Nat.reduceAdd]
     refine use18 ?_
     simp (maxSteps:=9^9) only [go_sem, Int.reduceLT, Int.reduceLE, Int.reduceEq, Int.reduceNe, Int.reduceAdd, Int.reduceSub, Int.reduceMul, Int.reduceToNat, Int.reduceNeg, Nat.reduceEqDiff, Nat.reduceLeDiff, Nat.reduceSub, Nat.reduceMul, Nat.reduceLT, Nat.reduceBEq, Nat.reduceAdd]
     refine use15 (by omega) (by omega) ?_
     simp (maxSteps:=9^9) only [go_sem, Int.reduceLT, Int.reduceLE, Int.reduceEq, Int.reduceNe, Int.reduceAdd, Int.reduceSub, Int.reduceMul, Int.reduceToNat, Int.reduceNeg, Nat.reduceEqDiff, Nat.reduceLeDiff, Nat.reduceSub, Nat.reduceMul, Nat.reduceLT, Nat.reduceBEq, Nat.reduceAdd]
     refine use15 (by omega) (by omega) ?_
     simp (maxSteps:=9^9) only [go_sem, Int.reduceLT, Int.reduceLE, Int.reduceEq, Int.reduceNe, Int.reduceAdd, Int.reduceSub, Int.reduceMul, Int.reduceToNat, Int.reduceNeg, Nat.reduceEqDiff, Nat.reduceLeDiff, Nat.reduceSub, Nat.reduceMul, Nat.reduceLT, Nat.reduceBEq, Nat.reduceAdd]
     refine use19 ?_
     simp (maxSteps:=9^9) only [go_sem, Int.reduceLT, Int.reduceLE, Int.reduceEq, Int.reduceNe, Int.reduceAdd, Int.reduceSub, Int.reduceMul, Int.reduceToNat, Int.reduceNeg, Nat.reduceEqDiff, Nat.reduceLeDiff, Nat.reduceSub, Nat.reduceMul, Nat.reduceLT, Nat.reduceBEq, Nat.reduceAdd]
     refine use11 ?_
     simp (maxSteps:=9^9) only [go_sem, Int.reduceLT, Int.reduceLE, Int.reduceEq, Int.reduceNe, Int.reduceAdd, Int.reduceSub, Int.reduceMul, Int.reduceToNat, Int.reduceNeg, Nat.reduceEqDiff, Nat.reduceLeDiff, Nat.reduceSub, Nat.reduceMul, Nat.reduceLT, Nat.reduceBEq, Nat.reduceAdd]
     exact h
    | true =>
     refine use14 (fun h' => absurd h' (by rw [fp]; simp)) (fun _ => ?_)
     simp (maxSteps:=9^9) only [go_sem, Int.reduceLT, Int.reduceLE, Int.reduceEq, Int.reduceNe, Int.reduceAdd, Int.reduceSub, Int.reduceMul, Int.reduceToNat, Int.reduceNeg, Nat.reduceEqDiff, Nat.reduceLeDiff, Nat.reduceSub, Nat.reduceMul, Nat.reduceLT, Nat.reduceBEq, Nat.reduceAdd]
     refine use16 (fun h' => absurd h' (by rw [fp]; simp)) (fun _ => ?_)
     simp (maxSteps:=9^9) only [go_sem, Int.reduceLT, Int.reduceLE, Int.reduceEq, Int.reduceNe, Int.reduceAdd, Int.reduceSub, Int.reduceMul, Int.reduceToNat, Int.reduceNeg, Nat.reduceEqDiff, Nat.reduceLeDiff, Nat.reduceSub, Nat.reduceMul, Nat.reduceLT, Nat.reduceBEq, Nat.reduceAdd]
     refine use15 (by omega) (by omega) ?_
     simp (maxSteps:=9^9) only [go_sem, Int.reduceLT, Int.reduceLE, Int.reduceEq, Int.reduceNe, Int.reduceAdd, Int.reduceSub, Int.reduceMul, Int.reduceToNat, Int.reduceNeg, Nat.reduceEqDiff, Nat.reduceLeDiff, Nat.reduceSub, Nat.reduceMul, Nat.reduceLT, Nat.reduceBEq, Nat.reduceAdd]
     refine use17 ?_
     simp (maxSteps:=9^9) only [go_sem, Int.reduceLT, Int.reduceLE, Int.reduceEq, Int.reduceNe, Int.reduceAdd, Int.reduceSub, Int.reduceMul, Int.reduceToNat, Int.reduceNeg, Nat.reduceEqDiff, Nat.reduceLeDiff, Nat.reduceSub, Nat.reduceMul, Nat.reduceLT, Nat.reduceBEq, Nat.reduceAdd]
     refine use18 ?_
     simp (maxSteps:=9^9) only [go_sem, Int.reduceLT, Int.reduceLE, Int.reduceEq, Int.reduceNe, Int.reduceAdd, Int.reduceSub, Int.reduceMul, Int.reduceToNat, Int.reduceNeg, Nat.reduceEqDiff, Nat.reduceLeDiff, Nat.reduceSub, Nat.reduceMul, Nat.reduceLT, Nat.reduceBEq, Nat.reduceAdd]
     refine use15 (by omega) (by omega) ?_
     simp (maxSteps:=9^9) only [go_sem, Int.reduceLT, Int.reduceLE, Int.reduceEq, Int.reduceNe, Int.reduceAdd, Int.reduceSub, Int.reduceMul, Int.reduceToNat, Int.reduceNeg, Nat.reduceEqDiff, Nat.reduceLeDiff, Nat.reduceSub, Nat.reduceMul, Nat.reduceLT, Nat.reduceBEq, Nat.reduceAdd]
     refine use15 (by omega) (by omega) ?_
     simp (maxSteps:=9^9) only [go_sem, Int.reduceLT, Int.reduceLE, Int.reduceEq, Int.reduceNe, Int.reduceAdd, Int.reduceSub, Int.reduceMul, Int.reduceToNat, Int.reduceNeg, Nat.reduceEqDiff, Nat.reduceLeDiff, Nat.reduceSub, Nat.reduceMul, Nat.reduceLT, Nat.reduceBEq, Nat.reduceAdd]
     refine use19 ?_
     simp (maxSteps:=9^9) only [go_sem, Int.reduceLT, Int.reduceLE, Int.reduceEq, Int.reduceNe, Int.reduceAdd, Int.reduceSub, Int.reduceMul, Int.reduceToNat, Int.reduceNeg, Nat.reduceEqDiff, Nat.reduceLeDiff, Nat.reduceSub, Nat.reduceMul, Nat.reduceLT, Nat.reduceBEq, Nat.reduceAdd]
     refine use11 ?_
     simp (maxSteps:=9^9) only [go_sem, Int.reduceLT, Int.reduceLE, Int.reduceEq, Int.reduceNe, Int.reduceAdd, Int.reduceSub, Int.reduceMul, Int.reduceToNat, Int.reduceNeg, Nat.reduceEqDiff, Nat.reduceLeDiff, Nat.reduceSub, Nat.reduceMul, Nat.reduceLT, Nat.reduceBEq, Nat.reduceAdd]
     exact h
 ·exact h.elim
end Go.V
