/- What a program is printed as: plain lists of bytes. -/
import Derived.Test.YtaeoiobjddknbaaDoorMS2
import Derived.Test.YtaeoiobjddknbaaDoorMA63
namespace Go.V
open Go.Proofs
set_option maxRecDepth 100000
set_option maxHeartbeats 2000000
set_option linter.unusedSimpArgs false
set_option linter.unnecessarySimpa false
set_option linter.unusedVariables false
def nmL (n : ByteArray) : List UInt8 := nameL ++ (hexL n.data.toList ++ [10])
def argL (x : EvT.den) : List UInt8 := if opK x.1 = 0 then [] else 32 :: Lib.itoa x.2
def lnL (x : EvT.den) : List UInt8 := wordL x.1.toNat ++ (argL x ++ [10])
def prN (ns : List ByteArray) : List UInt8 := ns.flatMap nmL
def prC (cs : List EvT.den) : List UInt8 := cs.flatMap lnL
theorem prN_nil : prN [] = [] := rfl
theorem prC_nil : prC [] = [] := rfl
theorem prN_next {ns : List ByteArray} {i : Nat} (h : i < ns.length) : prN (ns.take (i + 1)) = prN (ns.take i) ++ nmL (elt .str ns i) := by
 unfold prN
 rw [← take_elt (t := .str) h, List.flatMap_append, List.flatMap_cons, List.flatMap_nil, List.append_nil]
theorem prC_next {cs : List EvT.den} {i : Nat} (h : i < cs.length) : prC (cs.take (i + 1)) = prC (cs.take i) ++ lnL (elt EvT cs i) := by
 unfold prC
 rw [← take_elt (t := EvT) h, List.flatMap_append, List.flatMap_cons, List.flatMap_nil, List.append_nil]
theorem nDigits_le (k : Nat) : ∀ u : Nat, u < 10 ^ (k + 1) → Lib.nDigits u ≤ k + 1 := by
 induction k with
 | zero => intro u h; rw [Lib.nDigits_small (by simpa using h)]; exact Nat.le_refl _
 | succ k ih =>
  intro u h
  by_cases h10 : u < 10
  ·rw [Lib.nDigits_small h10]; omega
  ·rw [Lib.nDigits_big h10]
   have := ih (u / 10) (by rw [Nat.pow_succ] at h; omega)
   omega
theorem itoa_len {n : Int} (h : inR .i64 n) : (Lib.itoa n).length ≤ 21 := by
 have h1 : -9223372036854775808 ≤ n ∧ n ≤ 9223372036854775807 := h
 unfold Lib.itoa
 split
 ·rw [List.length_cons, Lib.decDigits_length]
  have := nDigits_le 19 n.natAbs (by omega)
  omega
 ·rw [Lib.decDigits_length]
  have := nDigits_le 19 n.toNat (by omega)
  omega
theorem word_len : ∀ j, j < 24 → (wordL j).length ≤ 10 := by decide +kernel
theorem hexL_two (l : List UInt8) : (hexL l).length = 2 * l.length := by
 induction l with
 | nil => rfl
 | cons a l ih => show (hexC a ++ hexL l).length = _; rw [List.length_append, ih]; simp [hexC]; omega
theorem nmL_len {n : ByteArray} (h : keyOk n = true) : (nmL n).length ≤ 86 := by
 simp only [keyOk, Bool.and_eq_true, decide_eq_true_eq] at h
 have : n.data.toList.length = n.size := Array.length_toList
 simp only [nmL, nameL, List.length_append, hexL_two, List.length_cons, List.length_nil]
 omega
theorem argL_len {x : EvT.den} (h : inR .i64 x.2) : (argL x).length ≤ 22 := by
 unfold argL
 split
 ·simp
 ·have := itoa_len h
  simp only [List.length_cons]
  omega
theorem lnL_len {a b : Int} (h : 0 ≤ a ∧ a < 24) (h2 : inR .i64 b) : (lnL (a, b)).length ≤ 40 := by
 have h3 := word_len a.toNat (by omega)
 have h4 := argL_len (x := (a, b)) h2
 simp only [lnL, List.length_append, List.length_cons, List.length_nil]
 omega
theorem flat_len {α : Type} {f : α → List UInt8} {k : Nat} : ∀ {l : List α}, (∀ x ∈ l, (f x).length ≤ k) → (l.flatMap f).length ≤ k * l.length
 | [], _ => by simp
 | x :: l, h => by
  have h1 := h x (List.mem_cons_self ..)
  have h2 := flat_len (l := l) (fun y hy => h y (List.mem_cons_of_mem _ hy))
  rw [List.flatMap_cons, List.length_append, List.length_cons, Nat.mul_succ]
  omega
theorem prN_len {ns : List ByteArray} (h : ns.all keyOk = true) : (prN ns).length ≤ 86 * ns.length := flat_len fun x hx => nmL_len (List.all_eq_true.1 h x hx)
theorem prC_len {n c : Nat} {cs : List EvT.den} (h : cs.all (insOk n c) = true) (h2 : ∀ x ∈ cs, inR .i64 x.2) : (prC cs).length ≤ 40 * cs.length := flat_len fun x hx => by
 have := List.all_eq_true.1 h x hx
 simp only [insOk, Bool.and_eq_true, decide_eq_true_eq] at this
 exact lnL_len this.1 (h2 x hx)
def printL (ns : List ByteArray) (cs : List EvT.den) : List UInt8 := prN ns ++ prC cs
end Go.V
namespace Go.V
open Go.Proofs
set_option maxRecDepth 100000
set_option maxHeartbeats 8000000
set_option linter.unusedSimpArgs false
set_option linter.unnecessarySimpa false
set_option linter.unusedVariables false
theorem bsOf_data (s : ByteArray) : bsOf s.data.toList = s := rfl
theorem bsOf_inj {a b : List UInt8} : bsOf a = bsOf b ↔ a = b := by
 constructor
 ·intro h
  have := congrArg (fun s : ByteArray => s.data.toList) h
  simpa [bsOf] using this
 ·rintro rfl; rfl
theorem bs_eq {a : List UInt8} {s : ByteArray} : bsOf a = s ↔ a = s.data.toList := by
 rw [← bsOf_data s, bsOf_inj]
 rfl
theorem cut1_L (s : ByteArray) (c : UInt8) : (cut1 s ⟨#[c]⟩).data.toList = s.data.toList.takeWhile (· != c) := by
 have : (⟨#[c]⟩ : ByteArray).data.toList = [c] := rfl
 unfold cut1
 rw [this, cut_one]
 simp [bsOf]
theorem cut2_L (s : ByteArray) (c : UInt8) : (cut2 s ⟨#[c]⟩).data.toList = (s.data.toList.dropWhile (· != c)).drop 1 := by
 have : (⟨#[c]⟩ : ByteArray).data.toList = [c] := rfl
 unfold cut2
 rw [this, cut_one]
 simp [bsOf]
theorem cut3_L (s : ByteArray) (c : UInt8) : cut3 s ⟨#[c]⟩ = s.data.toList.contains c := by
 have : (⟨#[c]⟩ : ByteArray).data.toList = [c] := rfl
 unfold cut3
 rw [this, cut_one]
theorem size_L (s : ByteArray) : s.size = s.data.toList.length := Array.length_toList.symm
theorem cut_size (s : ByteArray) (c : UInt8) : (cut1 s ⟨#[c]⟩).size ≤ s.size ∧ (cut2 s ⟨#[c]⟩).size ≤ s.size := by
 have : (⟨#[c]⟩ : ByteArray).data.toList = [c] := rfl
 unfold cut1 cut2
 rw [bsOf_size, bsOf_size, this, size_L s]
 exact cut_len
theorem use24 {s : ByteArray} {c : UInt8} {K : SV → List SB → Prop} (hs : s.size ≤ 100000) (h : K (.tup [.str (cut1 s ⟨#[c]⟩), .str (cut2 s ⟨#[c]⟩), .bool (cut3 s ⟨#[c]⟩)]) []) : C24 [.str s, .str ⟨#[c]⟩] [] K := by
 have hmx := maxLen_val
 have := cut_size s c
 exact ⟨⟨by omega, by omega, by omega⟩, h⟩
theorem use32 {i : Nat} {K : SV → List SB → Prop} (h1 : ¬ i < 24 → K (.tup [.str ByteArray.empty, .int .i64 0, .bool false]) []) (h2 : i < 24 → K (.tup [.str (wordB i), .int .i64 (opK i), .bool true]) []) : C32 [.int .i64 i] [] K :=
 ⟨fun h => h1 (by omega), fun h => h2 (by omega)⟩
theorem use64 {s : ByteArray} {K : SV → List SB → Prop} (hs : s.size ≤ 100000) (h : ∀ n b, inR .i64 n → (b = true → numI s.data.toList = some n) → (b = false → numI s.data.toList = none) → K (.tup [.int .i64 n, .bool b]) []) : C64 [.str s] [] K := by
 refine ⟨by omega, fun n b hn h1 h2 => h n b hn ?_ ?_⟩ <;> rw [← intP_numI] <;> assumption
def C27 : Contract := fun args hp K => match args, hp with
 | [.str s], [] => s.size ≤ 100000 ∧ (instrF s.data.toList = none → ∀ a b : Int, K (.tup [.agg [.int .i64 a, .int .i64 b], .bool false]) []) ∧ (∀ j n, instrF s.data.toList = some (j, n) → K (.tup [.agg [.int .i64 j, .int .i64 n], .bool true]) [])
 | _, _ => False
def L27 (w a : ByteArray) (h : Bool) : LoopAnn := { G := Nat, I := fun i => ⟨[(2, .ptr 0 0), (4, .str w), (5, .str a), (6, .bool h), (7, .int .i64 i)], [.struct [.int .i64 0, .int .i64 0]]⟩, R := fun _ i => i ≤ 24 ∧ ∀ j, j < i → wordL j ≠ w.data.toList, μ := fun i => 24 - i }
theorem L27_I {w a : ByteArray} {h : Bool} (i : Nat) : (L27 w a h).I i = ⟨[(2, .ptr 0 0), (4, .str w), (5, .str a), (6, .bool h), (7, .int .i64 i)], [.struct [.int .i64 0, .int .i64 0]]⟩ := rfl
attribute [local irreducible] rc
theorem s27 : Sound Tryd.prog 27 C27 := by
  refine sound_of_okF ok27 (.cons s24 ⟨_, Tryd.func24, rfl, by decide⟩ (.cons s32 (callable_of_okF ok32) (.cons s64 ⟨_, Tryd.func64, rfl, by decide⟩ .nil))) ?_
  intro args hp K h
  unfold C27 at h
  split at h
  · rename_i s
    obtain ⟨hs, hn, hk⟩ := h
    have hmx := maxLen_val
    have hl : s.data.toList.length = s.size := Array.length_toList
    refine ⟨by simp, [(1, L27 (cut1 s ⟨#[32]⟩) (cut2 s ⟨#[32]⟩) (cut3 s ⟨#[32]⟩))], ?_⟩
    simp (maxSteps:=9^9) only [a27, r27, go_sem, Int.reduceLT, Int.reduceLE, Int.reduceEq, Int.reduceNe, Int.reduceAdd, Int.reduceSub, Int.reduceMul, Int.reduceToNat, Int.reduceNeg, Nat.reduceEqDiff, Nat.reduceLeDiff, Nat.reduceSub, Nat.reduceMul, Nat.reduceLT, Nat.reduceBEq, Nat.reduceAdd]
    refine use24 hs ?_
    simp (maxSteps:=9^9) only [go_sem, Int.reduceLT, Int.reduceLE, Int.reduceEq, Int.reduceNe, Int.reduceAdd, Int.reduceSub, Int.reduceMul, Int.reduceToNat, Int.reduceNeg, Nat.reduceEqDiff, Nat.reduceLeDiff, Nat.reduceSub, Nat.reduceMul, Nat.reduceLT, Nat.reduceBEq, Nat.reduceAdd]
    refine loop_intro (A := L27 (cut1 s ⟨#[32]⟩) (cut2 s ⟨#[32]⟩) (cut3 s ⟨#[32]⟩)) (0 : Nat) ?_ ⟨by omega, fun j hj => absurd hj (by omega)⟩ ?_
    · simp (maxSteps:=9^9) only [go_sem, Int.reduceLT, Int.reduceLE, Int.reduceEq, Int.reduceNe, Int.reduceAdd, Int.reduceSub, Int.reduceMul, Int.reduceToNat, Int.reduceNeg, Nat.reduceEqDiff, Nat.reduceLeDiff, Nat.reduceSub, Nat.reduceMul, Nat.reduceLT, Nat.reduceBEq, Nat.reduceAdd]
      rfl
    · rintro (i : Nat) (⟨g1, g2⟩ : i ≤ 24 ∧ ∀ j, j < i → wordL j ≠ (cut1 s ⟨#[32]⟩).data.toList)
      rw [cut1_L] at g2
      simp (maxSteps:=9^9) only [L27_I, go_sem, Int.reduceLT, Int.reduceLE, Int.reduceEq, Int.reduceNe, Int.reduceAdd, Int.reduceSub, Int.reduceMul, Int.reduceToNat, Int.reduceNeg, Nat.reduceEqDiff, Nat.reduceLeDiff, Nat.reduceSub, Nat.reduceMul, Nat.reduceLT, Nat.reduceBEq, Nat.reduceAdd]
      refine use32 (fun hi => ?_) (fun hi => ?_)
      · simp (maxSteps:=9^9) only [go_sem, Int.reduceLT, Int.reduceLE, Int.reduceEq, Int.reduceNe, Int.reduceAdd, Int.reduceSub, Int.reduceMul, Int.reduceToNat, Int.reduceNeg, Nat.reduceEqDiff, Nat.reduceLeDiff, Nat.reduceSub, Nat.reduceMul, Nat.reduceLT, Nat.reduceBEq, Nat.reduceAdd]
        refine hn ?_ _ _
        unfold instrF
        rw [opFind_none (fun j hj => g2 j (by omega))]
      · simp (maxSteps:=9^9) only [go_sem, Int.reduceLT, Int.reduceLE, Int.reduceEq, Int.reduceNe, Int.reduceAdd, Int.reduceSub, Int.reduceMul, Int.reduceToNat, Int.reduceNeg, Nat.reduceEqDiff, Nat.reduceLeDiff, Nat.reduceSub, Nat.reduceMul, Nat.reduceLT, Nat.reduceBEq, Nat.reduceAdd]
        intro c hc
        refine swn hc (fun hw => ?_) (fun hw => ?_)
        · rintro _ _ m hm
          rw [w64 (by omega)] at hm
          rw [hm]
          refine lpE_intro (A := L27 (cut1 s ⟨#[32]⟩) (cut2 s ⟨#[32]⟩) (cut3 s ⟨#[32]⟩)) (i + 1 : Nat) rfl ⟨hi, fun j hj => ?_⟩ (by show 24 - (i + 1) < 24 - i; omega)
          rw [cut1_L]
          rcases Nat.lt_or_ge j i with h9 | h9
          · exact g2 j h9
          · obtain rfl : j = i := by omega
            intro e
            exact hw (by rw [← bsOf_data (wordB j), ← bsOf_data (cut1 s ⟨#[32]⟩), bsOf_inj, cut1_L]; exact e)
        · intro c2 hc2
          have hf : opFind (s.data.toList.takeWhile (· != 32)) = some i := by
            rw [← cut1_L, ← hw]
            exact opFind_word hi
          refine swd hc2 (fun hk0 => ?_) (fun hk0 => ?_)
          · have hI : instrF s.data.toList = if s.data.toList.contains 32 then none else some ((i : Int), 0) := by
              unfold instrF
              rw [hf]
              simp only [hk0, if_true]
            rw [cut3_L]
            cases hcc : s.data.toList.contains 32 with
            | true =>
              rw [hcc] at hI
              exact hn hI _ _
            | false =>
              rw [hcc] at hI
              exact hk _ _ hI
          · have hI : instrF s.data.toList = if s.data.toList.contains 32 then (numI ((s.data.toList.dropWhile (· != 32)).drop 1)).map (fun n => ((i : Int), n)) else none := by
              unfold instrF
              rw [hf]
              simp only [hk0, if_false]
            refine use64 (by have := cut_size s 32; omega) (fun n b hin hb1 hb2 => ?_)
            rw [cut2_L] at hb1 hb2
            simp (maxSteps:=9^9) only [go_sem, Int.reduceLT, Int.reduceLE, Int.reduceEq, Int.reduceNe, Int.reduceAdd, Int.reduceSub, Int.reduceMul, Int.reduceToNat, Int.reduceNeg, Nat.reduceEqDiff, Nat.reduceLeDiff, Nat.reduceSub, Nat.reduceMul, Nat.reduceLT, Nat.reduceBEq, Nat.reduceAdd]
            rw [cut3_L]
            cases hcc : s.data.toList.contains 32 with
            | true =>
              rw [hcc, if_pos rfl] at hI
              cases b with
              | true =>
                rw [hb1 rfl] at hI
                exact hk _ _ hI
              | false =>
                rw [hb2 rfl] at hI
                exact hn hI _ _
            | false =>
              rw [hcc] at hI
              exact hn hI _ _
  · exact h.elim
end Go.V
namespace Go.V
open Go.Proofs
set_option maxRecDepth 100000
set_option maxHeartbeats 8000000
set_option linter.unusedSimpArgs false
set_option linter.unnecessarySimpa false
set_option linter.unusedVariables false
attribute [local irreducible] rc
theorem use25 {s : ByteArray} {K : SV → List SB → Prop} (hs : s.size ≤ 100000) (h1 : nameL.isPrefixOf s.data.toList = true → K (.tup [.str (bsOf (s.data.toList.drop 5)), .bool true]) []) (h2 : ¬ nameL.isPrefixOf s.data.toList = true → K (.tup [.str s, .bool false]) []) : C25 [.str s, .str ⟨#[110, 97, 109, 101, 32]⟩] [] K := by
 have hmx := maxLen_val
 have e1 : cutp2 s ⟨#[110, 97, 109, 101, 32]⟩ = nameL.isPrefixOf s.data.toList := rfl
 have e2 : cutp1 s ⟨#[110, 97, 109, 101, 32]⟩ = bsOf (if nameL.isPrefixOf s.data.toList then s.data.toList.drop 5 else s.data.toList) := rfl
 refine ⟨?_, ?_⟩
 ·rw [e2, bsOf_size]
  have := size_L s
  split <;> simp <;> omega
 ·rw [e1, e2]
  cases hp : nameL.isPrefixOf s.data.toList with
  | true => rw [hp] at h1; exact h1 rfl
  | false => rw [hp] at h2; exact h2 (by simp)
theorem use26 {s : ByteArray} {K : SV → List SB → Prop} (hs : s.size ≤ 100000) (h1 : unhexF s = none → K (.tup [.str ByteArray.empty, .bool false]) []) (h2 : ∀ l, unhexF s = some l → K (.tup [.str (bsOf l), .bool (keyOk (bsOf l))]) []) : C26 [.str s] [] K := ⟨hs, h1, h2⟩
theorem use27 {s : ByteArray} {K : SV → List SB → Prop} (hs : s.size ≤ 100000) (h1 : instrF s.data.toList = none → ∀ a b : Int, K (.tup [.agg [.int .i64 a, .int .i64 b], .bool false]) []) (h2 : ∀ j n, instrF s.data.toList = some (j, n) → K (.tup [.agg [.int .i64 j, .int .i64 n], .bool true]) []) : C27 [.str s] [] K := ⟨hs, h1, h2⟩
theorem use17 {ns : List ByteArray} {cs : List EvT.den} {K : SV → List SB → Prop} (h : K (.bool (formP ns cs)) []) : C17 [.agg [.sl true 16 .str ns, .sl true 16 EvT cs]] [] K := .inr ⟨_, _, rfl, .inr ⟨_, _, rfl, h⟩⟩
def pOut (K : SV → List SB → Prop) : PR → Prop
 | .bad i => K (.tup [.agg [.nils, .nils], .int .i64 i, .int .i64 2]) []
 | .fin ns cs late => if late = true ∨ formP ns cs = false then K (.tup [.agg [.nils, .nils], .int .i64 0, .int .i64 2]) [] else K (.tup [.agg [.sl true 16 .str ns, .sl true 16 EvT cs], .int .i64 0, .int .i64 0]) []
def C9 : Contract := fun args hp K => match args, hp with
 | [.str s], [] => (20000 < s.size → K (.tup [.agg [.nils, .nils], .int .i64 0, .int .i64 4]) []) ∧ (s.size ≤ 20000 → pOut K (parseGo (linesL s.data.toList) 1 [] [] false))
 | _, _ => False
structure U9 where
 r : ByteArray
 i : Nat
 ns : List ByteArray
 cs : List EvT.den
 late : Bool
def R9 (s : ByteArray) (g : U9) : Prop := (g.i + g.r.size ≤ s.size ∧ g.ns.length ≤ g.i ∧ g.cs.length ≤ g.i) ∧ parseGo (linesL s.data.toList) 1 [] [] false = parseGo (linesL g.r.data.toList) (g.i + 1 : Nat) g.ns g.cs g.late
def L9 (s : ByteArray) : LoopAnn := { G := U9, I := fun g => ⟨[(0, .str g.r), (2, .ptr 0 0), (5, .ptr 1 0), (6, .bool g.late), (7, .int .i64 (g.i + 1 : Nat))], [.struct [.nils, .nils], .struct [.own 2, .own 3], .row true 16 .str g.ns, .row true 16 EvT g.cs]⟩, R := fun _ g => R9 s g, μ := fun g => g.r.size }
theorem L9_I {s : ByteArray} (g : U9) : (L9 s).I g = ⟨[(0, .str g.r), (2, .ptr 0 0), (5, .ptr 1 0), (6, .bool g.late), (7, .int .i64 (g.i + 1 : Nat))], [.struct [.nils, .nils], .struct [.own 2, .own 3], .row true 16 .str g.ns, .row true 16 EvT g.cs]⟩ := rfl
theorem s9 : Sound Tryd.prog 9 C9 := by
  refine sound_of_okF ok9 (.cons s24 ⟨_, Tryd.func24, rfl, by decide⟩ (.cons s25 ⟨_, Tryd.func25, rfl, by decide⟩ (.cons s26 (callable_of_okF ok26) (.cons s27 (callable_of_okF ok27) (.cons s17 (callable_of_okF ok17) .nil))))) ?_
  intro args hp K h
  unfold C9 at h
  split at h
  · rename_i s
    obtain ⟨ha, h⟩ := h
    have hmx := maxLen_val
    refine ⟨by simp, [(1, L9 s)], ?_⟩
    simp (maxSteps:=9^9) only [a9, r9, go_sem, Int.reduceLT, Int.reduceLE, Int.reduceEq, Int.reduceNe, Int.reduceAdd, Int.reduceSub, Int.reduceMul, Int.reduceToNat, Int.reduceNeg, Nat.reduceEqDiff, Nat.reduceLeDiff, Nat.reduceSub, Nat.reduceMul, Nat.reduceLT, Nat.reduceBEq, Nat.reduceAdd]
    rintro _ _ rfl c hc
    refine swd hc (fun h0 => ?_) (fun h0 => ?_)
    · exact ha (by omega)
    · have h := h (by omega)
      refine loop_intro (A := L9 s) (⟨s, 0, [], [], false⟩ : U9) ?_ ⟨⟨by simp, by simp, by simp⟩, rfl⟩ ?_
      · simp (maxSteps:=9^9) only [go_sem, Int.reduceLT, Int.reduceLE, Int.reduceEq, Int.reduceNe, Int.reduceAdd, Int.reduceSub, Int.reduceMul, Int.reduceToNat, Int.reduceNeg, Nat.reduceEqDiff, Nat.reduceLeDiff, Nat.reduceSub, Nat.reduceMul, Nat.reduceLT, Nat.reduceBEq, Nat.reduceAdd]
        rfl
      · rintro (⟨r, i, ns, cs, late⟩ : U9) (⟨⟨g1, g2, g3⟩, g4⟩ : R9 s ⟨r, i, ns, cs, late⟩)
        simp only at g1 g2 g3 g4
        simp (maxSteps:=9^9) only [L9_I, go_sem, Int.reduceLT, Int.reduceLE, Int.reduceEq, Int.reduceNe, Int.reduceAdd, Int.reduceSub, Int.reduceMul, Int.reduceToNat, Int.reduceNeg, Nat.reduceEqDiff, Nat.reduceLeDiff, Nat.reduceSub, Nat.reduceMul, Nat.reduceLT, Nat.reduceBEq, Nat.reduceAdd]
        intro c2 hc2
        refine swn hc2 (fun h1 => ?_) (fun h1 => ?_)
        · have hne : r.data.toList ≠ [] := fun e => h1 (by rw [← bsOf_data r, e]; rfl)
          have hL : linesL r.data.toList = (cut1 r ⟨#[10]⟩).data.toList :: linesL (cut2 r ⟨#[10]⟩).data.toList := by
            rw [linesL_cut hne]
            simp [cut1, cut2, bsOf]
          have hz1 := cut_size r 10
          have hz2 : (cut2 r ⟨#[10]⟩).size < r.size := by
            have := cut_lt (c := 10) hne
            rw [← size_L r] at this
            have e : (cut2 r ⟨#[10]⟩).size = (Go.Lib.cut r.data.toList [10]).2.1.length := by unfold cut2; rw [bsOf_size]
            omega
          rw [hL] at g4
          simp only [parseGo] at g4
          refine use24 (by omega) ?_
          simp (maxSteps:=9^9) only [go_sem, Int.reduceLT, Int.reduceLE, Int.reduceEq, Int.reduceNe, Int.reduceAdd, Int.reduceSub, Int.reduceMul, Int.reduceToNat, Int.reduceNeg, Nat.reduceEqDiff, Nat.reduceLeDiff, Nat.reduceSub, Nat.reduceMul, Nat.reduceLT, Nat.reduceBEq, Nat.reduceAdd]
          generalize cut1 r ⟨#[10]⟩ = ln at *
          generalize cut2 r ⟨#[10]⟩ = rs at *
          refine use25 (by omega) (fun hp => ?_) (fun hp => ?_)
          · have hname : lineF ln.data.toList = (unhexL (ln.data.toList.drop 5)).bind fun k => if keyOk (bsOf k) then some (.inl (bsOf k)) else none := by
              unfold lineF
              rw [if_pos hp]
            simp (maxSteps:=9^9) only [go_sem, Int.reduceLT, Int.reduceLE, Int.reduceEq, Int.reduceNe, Int.reduceAdd, Int.reduceSub, Int.reduceMul, Int.reduceToNat, Int.reduceNeg, Nat.reduceEqDiff, Nat.reduceLeDiff, Nat.reduceSub, Nat.reduceMul, Nat.reduceLT, Nat.reduceBEq, Nat.reduceAdd]
            have hd : (bsOf (ln.data.toList.drop 5)).data.toList = ln.data.toList.drop 5 := by simp [bsOf]
            have hln := size_L ln
            refine use26 (by rw [bsOf_size, List.length_drop]; omega) (fun hu => ?_) (fun l hu => ?_)
            · simp (maxSteps:=9^9) only [go_sem, Int.reduceLT, Int.reduceLE, Int.reduceEq, Int.reduceNe, Int.reduceAdd, Int.reduceSub, Int.reduceMul, Int.reduceToNat, Int.reduceNeg, Nat.reduceEqDiff, Nat.reduceLeDiff, Nat.reduceSub, Nat.reduceMul, Nat.reduceLT, Nat.reduceBEq, Nat.reduceAdd]
              have hn : lineF ln.data.toList = none := by
                rw [hname, ← hd]
                show (unhexF _).bind _ = none
                rw [hu]
                rfl
              rw [hn] at g4
              rw [g4] at h
              exact h
            · simp (maxSteps:=9^9) only [go_sem, Int.reduceLT, Int.reduceLE, Int.reduceEq, Int.reduceNe, Int.reduceAdd, Int.reduceSub, Int.reduceMul, Int.reduceToNat, Int.reduceNeg, Nat.reduceEqDiff, Nat.reduceLeDiff, Nat.reduceSub, Nat.reduceMul, Nat.reduceLT, Nat.reduceBEq, Nat.reduceAdd]
              have hl : lineF ln.data.toList = if keyOk (bsOf l) then some (.inl (bsOf l)) else none := by
                rw [hname, ← hd]
                show (unhexF _).bind _ = _
                rw [hu]
                rfl
              cases hk : keyOk (bsOf l) with
              | false =>
                rw [hk] at hl
                rw [hl] at g4
                rw [g4] at h
                simp (maxSteps:=9^9) only [go_sem, Int.reduceLT, Int.reduceLE, Int.reduceEq, Int.reduceNe, Int.reduceAdd, Int.reduceSub, Int.reduceMul, Int.reduceToNat, Int.reduceNeg, Nat.reduceEqDiff, Nat.reduceLeDiff, Nat.reduceSub, Nat.reduceMul, Nat.reduceLT, Nat.reduceBEq, Nat.reduceAdd]
                exact h
              | true =>
                rw [hk] at hl
                rw [hl] at g4
                simp (maxSteps:=9^9) only [go_sem, Int.reduceLT, Int.reduceLE, Int.reduceEq, Int.reduceNe, Int.reduceAdd, Int.reduceSub, Int.reduceMul, Int.reduceToNat, Int.reduceNeg, Nat.reduceEqDiff, Nat.reduceLeDiff, Nat.reduceSub, Nat.reduceMul, Nat.reduceLT, Nat.reduceBEq, Nat.reduceAdd]
                simp only [if_true] at g4
                have ei : ((i + 1 : Nat) : Int) + 1 = ((i + 1 + 1 : Nat) : Int) := by omega
                rw [ei] at g4
                cases late with
                | true =>
                  rw [Bool.true_or] at g4
                  refine ⟨fun _ => by omega, fun _ => ?_⟩
                  rintro _ _ m9 hm9
                  rw [w64 (by omega)] at hm9
                  rw [hm9, ei]
                  refine lpE_intro (A := L9 s) (⟨rs, i + 1, ns ++ [bsOf l], cs, true⟩ : U9) ?_ ⟨⟨by show i + 1 + rs.size ≤ s.size; omega, by simp <;> omega, by simp <;> omega⟩, g4⟩ (by show rs.size < r.size; omega)
                  simp (maxSteps:=9^9) only [L9_I, go_sem, Int.reduceLT, Int.reduceLE, Int.reduceEq, Int.reduceNe, Int.reduceAdd, Int.reduceSub, Int.reduceMul, Int.reduceToNat, Int.reduceNeg, Nat.reduceEqDiff, Nat.reduceLeDiff, Nat.reduceSub, Nat.reduceMul, Nat.reduceLT, Nat.reduceBEq, Nat.reduceAdd]
                | false =>
                  rw [Bool.false_or] at g4
                  rintro _ _ _ rfl c3 hc3
                  refine ⟨fun _ => by omega, fun _ => ?_⟩
                  have hc3' : c3 = decide (0 < cs.length) := by rw [hc3]; exact decide_eq_decide.2 (by omega)
                  rw [← hc3'] at g4
                  rintro _ _ m9 hm9
                  rw [w64 (by omega)] at hm9
                  rw [hm9, ei]
                  refine lpE_intro (A := L9 s) (⟨rs, i + 1, ns ++ [bsOf l], cs, c3⟩ : U9) ?_ ⟨⟨by show i + 1 + rs.size ≤ s.size; omega, by simp <;> omega, by simp <;> omega⟩, g4⟩ (by show rs.size < r.size; omega)
                  simp (maxSteps:=9^9) only [L9_I, go_sem, Int.reduceLT, Int.reduceLE, Int.reduceEq, Int.reduceNe, Int.reduceAdd, Int.reduceSub, Int.reduceMul, Int.reduceToNat, Int.reduceNeg, Nat.reduceEqDiff, Nat.reduceLeDiff, Nat.reduceSub, Nat.reduceMul, Nat.reduceLT, Nat.reduceBEq, Nat.reduceAdd]
          · have hname : lineF ln.data.toList = (instrF ln.data.toList).map .inr := by
              unfold lineF
              rw [if_neg hp]
            simp (maxSteps:=9^9) only [go_sem, Int.reduceLT, Int.reduceLE, Int.reduceEq, Int.reduceNe, Int.reduceAdd, Int.reduceSub, Int.reduceMul, Int.reduceToNat, Int.reduceNeg, Nat.reduceEqDiff, Nat.reduceLeDiff, Nat.reduceSub, Nat.reduceMul, Nat.reduceLT, Nat.reduceBEq, Nat.reduceAdd]
            refine use27 (by omega) (fun hu a b => ?_) (fun j n hu => ?_)
            · simp (maxSteps:=9^9) only [go_sem, Int.reduceLT, Int.reduceLE, Int.reduceEq, Int.reduceNe, Int.reduceAdd, Int.reduceSub, Int.reduceMul, Int.reduceToNat, Int.reduceNeg, Nat.reduceEqDiff, Nat.reduceLeDiff, Nat.reduceSub, Nat.reduceMul, Nat.reduceLT, Nat.reduceBEq, Nat.reduceAdd]
              rw [hname, hu] at g4
              rw [g4] at h
              exact h
            · simp (maxSteps:=9^9) only [go_sem, Int.reduceLT, Int.reduceLE, Int.reduceEq, Int.reduceNe, Int.reduceAdd, Int.reduceSub, Int.reduceMul, Int.reduceToNat, Int.reduceNeg, Nat.reduceEqDiff, Nat.reduceLeDiff, Nat.reduceSub, Nat.reduceMul, Nat.reduceLT, Nat.reduceBEq, Nat.reduceAdd]
              rw [hname, hu] at g4
              simp only [Option.map_some] at g4
              have ei : ((i + 1 : Nat) : Int) + 1 = ((i + 1 + 1 : Nat) : Int) := by omega
              rw [ei] at g4
              refine ⟨fun _ => by omega, fun _ => ?_⟩
              rintro _ _ m9 hm9
              rw [w64 (by omega)] at hm9
              rw [hm9, ei]
              refine lpE_intro (A := L9 s) (⟨rs, i + 1, ns, cs ++ [(j, n)], late⟩ : U9) ?_ ⟨⟨by show i + 1 + rs.size ≤ s.size; omega, by simp <;> omega, by simp <;> omega⟩, g4⟩ (by show rs.size < r.size; omega)
              simp (maxSteps:=9^9) only [L9_I, go_sem, Int.reduceLT, Int.reduceLE, Int.reduceEq, Int.reduceNe, Int.reduceAdd, Int.reduceSub, Int.reduceMul, Int.reduceToNat, Int.reduceNeg, Nat.reduceEqDiff, Nat.reduceLeDiff, Nat.reduceSub, Nat.reduceMul, Nat.reduceLT, Nat.reduceBEq, Nat.reduceAdd]
        · subst h1
          rw [show linesL ByteArray.empty.data.toList = [] from rfl] at g4
          simp only [parseGo] at g4
          rw [g4] at h
          simp only [pOut] at h
          cases late with
          | true =>
            simp (maxSteps:=9^9) only [go_sem, Int.reduceLT, Int.reduceLE, Int.reduceEq, Int.reduceNe, Int.reduceAdd, Int.reduceSub, Int.reduceMul, Int.reduceToNat, Int.reduceNeg, Nat.reduceEqDiff, Nat.reduceLeDiff, Nat.reduceSub, Nat.reduceMul, Nat.reduceLT, Nat.reduceBEq, Nat.reduceAdd]
            rw [if_pos (.inl rfl)] at h
            exact h
          | false =>
            simp (maxSteps:=9^9) only [go_sem, Int.reduceLT, Int.reduceLE, Int.reduceEq, Int.reduceNe, Int.reduceAdd, Int.reduceSub, Int.reduceMul, Int.reduceToNat, Int.reduceNeg, Nat.reduceEqDiff, Nat.reduceLeDiff, Nat.reduceSub, Nat.reduceMul, Nat.reduceLT, Nat.reduceBEq, Nat.reduceAdd]
            refine use17 ?_
            cases hf : formP ns cs with
            | true =>
              rw [hf, if_neg (by simp)] at h
              simp (maxSteps:=9^9) only [go_sem, Int.reduceLT, Int.reduceLE, Int.reduceEq, Int.reduceNe, Int.reduceAdd, Int.reduceSub, Int.reduceMul, Int.reduceToNat, Int.reduceNeg, Nat.reduceEqDiff, Nat.reduceLeDiff, Nat.reduceSub, Nat.reduceMul, Nat.reduceLT, Nat.reduceBEq, Nat.reduceAdd]
              exact h
            | false =>
              rw [hf, if_pos (.inr rfl)] at h
              simp (maxSteps:=9^9) only [go_sem, Int.reduceLT, Int.reduceLE, Int.reduceEq, Int.reduceNe, Int.reduceAdd, Int.reduceSub, Int.reduceMul, Int.reduceToNat, Int.reduceNeg, Nat.reduceEqDiff, Nat.reduceLeDiff, Nat.reduceSub, Nat.reduceMul, Nat.reduceLT, Nat.reduceBEq, Nat.reduceAdd]
              exact h
  · exact h.elim
end Go.V
namespace Go.V
open Go.Proofs
set_option maxRecDepth 100000
set_option maxHeartbeats 8000000
set_option linter.unusedSimpArgs false
set_option linter.unnecessarySimpa false
set_option linter.unusedVariables false
def C12 : Contract := fun args hp K => match args, hp with
 | [.agg [x, y]], [] => onL .str 16 x fun names => onL EvT 16 y fun code => names.length ≤ 100000 ∧ (code : List EvT.den).length ≤ 100000 ∧ K (.agg [.sl true 16 .str names, .sl true 16 EvT code]) []
 | _, _ => False
def L12 (x y : SV) (names : List ByteArray) (code : List EvT.den) : LoopAnn := { G := Nat, I := fun i => ⟨[(1, .ptr 0 0), (2, .ptr 1 0), (3, .ptr 4 0), (12, .int .i64 code.length), (13, .int .i64 i)], [.struct [x, y], .struct [.own 2, .own 3], .row true 16 .str [], .row true 16 EvT [], .struct [.own 5, .own 6], .row true 16 .str names, .row true 16 EvT (code.take i)]⟩, R := fun _ i => i ≤ code.length, μ := fun i => code.length - i }
theorem L12_I {x y names code} (i : Nat) : (L12 x y names code).I i = ⟨[(1, .ptr 0 0), (2, .ptr 1 0), (3, .ptr 4 0), (12, .int .i64 code.length), (13, .int .i64 i)], [.struct [x, y], .struct [.own 2, .own 3], .row true 16 .str [], .row true 16 EvT [], .struct [.own 5, .own 6], .row true 16 .str names, .row true 16 EvT (code.take i)]⟩ := rfl
theorem s12 : Sound Tryd.prog 12 C12 := by
 refine sound_of_okF ok12 .nil ?_
 intro args hp K h
 unfold C12 at h
 split at h
 ·rename_i x y
  have hmx := maxLen_val
  rcases h with ⟨rfl, ⟨rfl, hn, hc, h⟩ | ⟨q, code, rfl, hn, hc, h⟩⟩ | ⟨p, names, rfl, ⟨rfl, hn, hc, h⟩ | ⟨q, code, rfl, hn, hc, h⟩⟩
  ·refine ⟨by simp, [(1, L12 .nils .nils ([] : List ByteArray) ([] : List EvT.den))], ?_⟩
   simp (maxSteps:=9^9) only [a12, r12, go_sem, Int.reduceLT, Int.reduceLE, Int.reduceEq, Int.reduceNe, Int.reduceAdd, Int.reduceSub, Int.reduceMul, Int.reduceToNat, Int.reduceNeg, Nat.reduceEqDiff, Nat.reduceLeDiff, Nat.reduceSub, Nat.reduceMul, Nat.reduceLT, Nat.reduceBEq, Nat.reduceAdd]
   refine loop_intro (A := L12 .nils .nils ([] : List ByteArray) ([] : List EvT.den)) (0 : Nat) ?_ (Nat.zero_le _) ?_
   ·simp (maxSteps:=9^9) only [L12_I, go_sem, Int.reduceLT, Int.reduceLE, Int.reduceEq, Int.reduceNe, Int.reduceAdd, Int.reduceSub, Int.reduceMul, Int.reduceToNat, Int.reduceNeg, Nat.reduceEqDiff, Nat.reduceLeDiff, Nat.reduceSub, Nat.reduceMul, Nat.reduceLT, Nat.reduceBEq, Nat.reduceAdd]
    rfl
   ·intro (i : Nat) (hi : i ≤ ([] : List EvT.den).length)
    simp (maxSteps:=9^9) only [L12_I, go_sem, Int.reduceLT, Int.reduceLE, Int.reduceEq, Int.reduceNe, Int.reduceAdd, Int.reduceSub, Int.reduceMul, Int.reduceToNat, Int.reduceNeg, Nat.reduceEqDiff, Nat.reduceLeDiff, Nat.reduceSub, Nat.reduceMul, Nat.reduceLT, Nat.reduceBEq, Nat.reduceAdd]
    rintro c rfl
    refine sw_intro (fun hc => ?_) (fun hc => ?_) <;> simp only [decide_eq_true_eq, decide_eq_false_iff_not] at hc
    ·exact absurd hc (by omega)
    ·rw [List.take_nil]
     exact h
  ·refine ⟨by simp, [(1, L12 .nils (.sl q 16 EvT code) ([] : List ByteArray) (code : List EvT.den))], ?_⟩
   simp (maxSteps:=9^9) only [a12, r12, go_sem, Int.reduceLT, Int.reduceLE, Int.reduceEq, Int.reduceNe, Int.reduceAdd, Int.reduceSub, Int.reduceMul, Int.reduceToNat, Int.reduceNeg, Nat.reduceEqDiff, Nat.reduceLeDiff, Nat.reduceSub, Nat.reduceMul, Nat.reduceLT, Nat.reduceBEq, Nat.reduceAdd]
   rintro _ _ m rfl
   refine loop_intro (A := L12 .nils (.sl q 16 EvT code) ([] : List ByteArray) (code : List EvT.den)) (0 : Nat) ?_ (Nat.zero_le _) ?_
   ·simp (maxSteps:=9^9) only [L12_I, go_sem, Int.reduceLT, Int.reduceLE, Int.reduceEq, Int.reduceNe, Int.reduceAdd, Int.reduceSub, Int.reduceMul, Int.reduceToNat, Int.reduceNeg, Nat.reduceEqDiff, Nat.reduceLeDiff, Nat.reduceSub, Nat.reduceMul, Nat.reduceLT, Nat.reduceBEq, Nat.reduceAdd]
    rfl
   ·intro (i : Nat) (hi : i ≤ (code : List EvT.den).length)
    simp (maxSteps:=9^9) only [L12_I, go_sem, Int.reduceLT, Int.reduceLE, Int.reduceEq, Int.reduceNe, Int.reduceAdd, Int.reduceSub, Int.reduceMul, Int.reduceToNat, Int.reduceNeg, Nat.reduceEqDiff, Nat.reduceLeDiff, Nat.reduceSub, Nat.reduceMul, Nat.reduceLT, Nat.reduceBEq, Nat.reduceAdd]
    rintro c rfl
    refine sw_intro (fun hc => ?_) (fun hc => ?_) <;> simp only [decide_eq_true_eq, decide_eq_false_iff_not] at hc
    ·refine nd_intro hc ⟨fun h9 => by rw [List.length_take]; omega, fun h9 => ?_⟩
     rintro _ _ m hm
     rw [w64 (by omega)] at hm
     subst hm
     refine lpE_intro (A := L12 .nils (.sl q 16 EvT code) ([] : List ByteArray) (code : List EvT.den)) (i + 1 : Nat) ?_ (by show i + 1 ≤ code.length; omega) (by show code.length - (i + 1) < code.length - i; omega)
     have e := take_elt (t := EvT) hc
     simp (maxSteps:=9^9) only [L12_I, ← e, go_sem, Int.reduceLT, Int.reduceLE, Int.reduceEq, Int.reduceNe, Int.reduceAdd, Int.reduceSub, Int.reduceMul, Int.reduceToNat, Int.reduceNeg, Nat.reduceEqDiff, Nat.reduceLeDiff, Nat.reduceSub, Nat.reduceMul, Nat.reduceLT, Nat.reduceBEq, Nat.reduceAdd]
     rfl
    ·rw [List.take_of_length_le (by omega)]
     exact h
  ·refine ⟨by simp, [(1, L12 (.sl p 16 .str names) .nils (names : List ByteArray) ([] : List EvT.den))], ?_⟩
   simp (maxSteps:=9^9) only [a12, r12, go_sem, Int.reduceLT, Int.reduceLE, Int.reduceEq, Int.reduceNe, Int.reduceAdd, Int.reduceSub, Int.reduceMul, Int.reduceToNat, Int.reduceNeg, Nat.reduceEqDiff, Nat.reduceLeDiff, Nat.reduceSub, Nat.reduceMul, Nat.reduceLT, Nat.reduceBEq, Nat.reduceAdd]
   refine ⟨fun h9 => h9, fun hl => ?_⟩
   refine loop_intro (A := L12 (.sl p 16 .str names) .nils (names : List ByteArray) ([] : List EvT.den)) (0 : Nat) ?_ (Nat.zero_le _) ?_
   ·simp (maxSteps:=9^9) only [L12_I, go_sem, Int.reduceLT, Int.reduceLE, Int.reduceEq, Int.reduceNe, Int.reduceAdd, Int.reduceSub, Int.reduceMul, Int.reduceToNat, Int.reduceNeg, Nat.reduceEqDiff, Nat.reduceLeDiff, Nat.reduceSub, Nat.reduceMul, Nat.reduceLT, Nat.reduceBEq, Nat.reduceAdd]
    rfl
   ·intro (i : Nat) (hi : i ≤ ([] : List EvT.den).length)
    simp (maxSteps:=9^9) only [L12_I, go_sem, Int.reduceLT, Int.reduceLE, Int.reduceEq, Int.reduceNe, Int.reduceAdd, Int.reduceSub, Int.reduceMul, Int.reduceToNat, Int.reduceNeg, Nat.reduceEqDiff, Nat.reduceLeDiff, Nat.reduceSub, Nat.reduceMul, Nat.reduceLT, Nat.reduceBEq, Nat.reduceAdd]
    rintro c rfl
    refine sw_intro (fun hc => ?_) (fun hc => ?_) <;> simp only [decide_eq_true_eq, decide_eq_false_iff_not] at hc
    ·exact absurd hc (by omega)
    ·rw [List.take_nil]
     exact h
  ·refine ⟨by simp, [(1, L12 (.sl p 16 .str names) (.sl q 16 EvT code) (names : List ByteArray) (code : List EvT.den))], ?_⟩
   simp (maxSteps:=9^9) only [a12, r12, go_sem, Int.reduceLT, Int.reduceLE, Int.reduceEq, Int.reduceNe, Int.reduceAdd, Int.reduceSub, Int.reduceMul, Int.reduceToNat, Int.reduceNeg, Nat.reduceEqDiff, Nat.reduceLeDiff, Nat.reduceSub, Nat.reduceMul, Nat.reduceLT, Nat.reduceBEq, Nat.reduceAdd]
   refine ⟨fun h9 => h9, fun hl => ?_⟩
   rintro _ _ m rfl
   refine loop_intro (A := L12 (.sl p 16 .str names) (.sl q 16 EvT code) (names : List ByteArray) (code : List EvT.den)) (0 : Nat) ?_ (Nat.zero_le _) ?_
   ·simp (maxSteps:=9^9) only [L12_I, go_sem, Int.reduceLT, Int.reduceLE, Int.reduceEq, Int.reduceNe, Int.reduceAdd, Int.reduceSub, Int.reduceMul, Int.reduceToNat, Int.reduceNeg, Nat.reduceEqDiff, Nat.reduceLeDiff, Nat.reduceSub, Nat.reduceMul, Nat.reduceLT, Nat.reduceBEq, Nat.reduceAdd]
    rfl
   ·intro (i : Nat) (hi : i ≤ (code : List EvT.den).length)
    simp (maxSteps:=9^9) only [L12_I, go_sem, Int.reduceLT, Int.reduceLE, Int.reduceEq, Int.reduceNe, Int.reduceAdd, Int.reduceSub, Int.reduceMul, Int.reduceToNat, Int.reduceNeg, Nat.reduceEqDiff, Nat.reduceLeDiff, Nat.reduceSub, Nat.reduceMul, Nat.reduceLT, Nat.reduceBEq, Nat.reduceAdd]
    rintro c rfl
    refine sw_intro (fun hc => ?_) (fun hc => ?_) <;> simp only [decide_eq_true_eq, decide_eq_false_iff_not] at hc
    ·refine nd_intro hc ⟨fun h9 => by rw [List.length_take]; omega, fun h9 => ?_⟩
     rintro _ _ m hm
     rw [w64 (by omega)] at hm
     subst hm
     refine lpE_intro (A := L12 (.sl p 16 .str names) (.sl q 16 EvT code) (names : List ByteArray) (code : List EvT.den)) (i + 1 : Nat) ?_ (by show i + 1 ≤ code.length; omega) (by show code.length - (i + 1) < code.length - i; omega)
     have e := take_elt (t := EvT) hc
     simp (maxSteps:=9^9) only [L12_I, ← e, go_sem, Int.reduceLT, Int.reduceLE, Int.reduceEq, Int.reduceNe, Int.reduceAdd, Int.reduceSub, Int.reduceMul, Int.reduceToNat, Int.reduceNeg, Nat.reduceEqDiff, Nat.reduceLeDiff, Nat.reduceSub, Nat.reduceMul, Nat.reduceLT, Nat.reduceBEq, Nat.reduceAdd]
     rfl
    ·rw [List.take_of_length_le (by omega)]
     exact h
 ·exact h.elim
end Go.V
namespace Go.V
open Go.Proofs
set_option maxRecDepth 100000
set_option maxHeartbeats 8000000
set_option linter.unusedSimpArgs false
set_option linter.unnecessarySimpa false
set_option linter.unusedVariables false
theorem onL_den {t : Ty} {eb : Nat} {x : SV} {k : List t.den → Prop} (h : onL t eb x k) : ∃ p xs, k xs ∧ x.isArr = false ∧ ∀ E v, den E x v → den E (.sl p eb t xs) v := by
 rcases h with ⟨rfl, h⟩ | ⟨p, xs, rfl, h⟩
 ·refine ⟨true, [], h, rfl, fun E v hv => ?_⟩
  simp only [den] at hv ⊢
  subst hv
  exact .inl ⟨rfl, none, 0, rfl, by decide, fun _ => rfl⟩
 ·exact ⟨p, xs, h, rfl, fun E v hv => hv⟩
theorem agg_den {E : En} {x y x' y' : SV} {v : Value} (hx : x.isArr = false) (hy : y.isArr = false) (hx' : x'.isArr = false) (hy' : y'.isArr = false) (h1 : ∀ v, den E x v → den E x' v) (h2 : ∀ v, den E y v → den E y' v) (h : den E (.agg [x, y]) v) : den E (.agg [x', y']) v := by
 simp only [den] at h ⊢
 obtain ⟨cs, rfl, h⟩ := h
 refine ⟨cs, rfl, ?_⟩
 rw [denC_cons hx] at h
 obtain ⟨v1, c2, e1, d1, h⟩ := h
 rw [denC_cons hy] at h
 obtain ⟨v2, c3, e2, d2, h⟩ := h
 rw [denC_cons hx']
 refine ⟨v1, c2, e1, h1 _ d1, ?_⟩
 rw [denC_cons hy']
 exact ⟨v2, c3, e2, h2 _ d2, h⟩
theorem take_next {t : Ty} {xs ys : List t.den} {i : Nat} (h1 : i < xs.length) (h2 : i < ys.length) (h : xs.take i = ys.take i) (he : elt t xs i = elt t ys i) : xs.take (i + 1) = ys.take (i + 1) := by
 rw [← take_elt h1, ← take_elt h2, h, he]
def C11a : Contract := fun args hp K => match args, hp with
 | [.agg [.sl p1 16 .str n1, .sl p2 16 (.pair (.int .i64) (.int .i64)) c1], .agg [.sl p3 16 .str n2, .sl p4 16 (.pair (.int .i64) (.int .i64)) c2]], [] => K (.bool (decide (n1 = n2) && decide ((c1 : List EvT.den) = c2))) []
 | _, _ => False
def L11 (x y z u : SV) (n1 n2 : List ByteArray) : LoopAnn := { G := Nat, I := fun i => ⟨[(2, .ptr 0 0), (3, .ptr 1 0), (25, .int .i64 n1.length), (26, .int .i64 i)], [.struct [x, y], .struct [z, u]]⟩, R := fun _ i => i ≤ n1.length ∧ n1.take i = n2.take i, μ := fun i => n1.length - i }
def M11 (x y z u : SV) (c1 c2 : List EvT.den) : LoopAnn := { G := Nat, I := fun i => ⟨[(2, .ptr 0 0), (3, .ptr 1 0), (43, .int .i64 c1.length), (44, .int .i64 i)], [.struct [x, y], .struct [z, u]]⟩, R := fun _ i => i ≤ c1.length ∧ c1.take i = c2.take i, μ := fun i => c1.length - i }
theorem L11_I {x y z u : SV} {n1 n2 : List ByteArray} (i : Nat) : (L11 x y z u n1 n2).I i = ⟨[(2, .ptr 0 0), (3, .ptr 1 0), (25, .int .i64 n1.length), (26, .int .i64 i)], [.struct [x, y], .struct [z, u]]⟩ := rfl
theorem M11_I {x y z u : SV} {c1 c2 : List EvT.den} (i : Nat) : (M11 x y z u c1 c2).I i = ⟨[(2, .ptr 0 0), (3, .ptr 1 0), (43, .int .i64 c1.length), (44, .int .i64 i)], [.struct [x, y], .struct [z, u]]⟩ := rfl
attribute [local irreducible] rc
theorem s11a : Sound Tryd.prog 11 C11a := by
  refine sound_of_okF ok11 .nil ?_
  intro args hp K h
  unfold C11a at h
  split at h
  · rename_i p1 n1 p2 c1 p3 n2 p4 c2
    have hmx := maxLen_val
    refine ⟨by simp, [(1, L11 (.sl p1 16 .str n1) (.sl p2 16 EvT c1) (.sl p3 16 .str n2) (.sl p4 16 EvT c2) n1 n2), (2, M11 (.sl p1 16 .str n1) (.sl p2 16 EvT c1) (.sl p3 16 .str n2) (.sl p4 16 EvT c2) c1 c2)], ?_⟩
    simp (maxSteps:=9^9) only [a11, r11, go_sem, Int.reduceLT, Int.reduceLE, Int.reduceEq, Int.reduceNe, Int.reduceAdd, Int.reduceSub, Int.reduceMul, Int.reduceToNat, Int.reduceNeg, Nat.reduceEqDiff, Nat.reduceLeDiff, Nat.reduceSub, Nat.reduceMul, Nat.reduceLT, Nat.reduceBEq, Nat.reduceAdd]
    have hf1 : ¬ (n1 : List ByteArray) = n2 → K (.bool false) [] := fun hne => by
      have e : (decide ((n1 : List ByteArray) = n2) && decide ((c1 : List EvT.den) = c2)) = false := by rw [decide_eq_false hne]; rfl
      rw [← e]; exact h
    have hf2 : ¬ (c1 : List EvT.den) = c2 → K (.bool false) [] := fun hne => by
      have e : (decide ((n1 : List ByteArray) = n2) && decide ((c1 : List EvT.den) = c2)) = false := by rw [decide_eq_false hne, Bool.and_false]
      rw [← e]; exact h
    have ht : (n1 : List ByteArray) = n2 → (c1 : List EvT.den) = c2 → K (.bool true) [] := fun e1 e2 => by
      have e : (decide ((n1 : List ByteArray) = n2) && decide ((c1 : List EvT.den) = c2)) = true := by rw [decide_eq_true e1, decide_eq_true e2]; rfl
      rw [← e]; exact h
    rintro _ _ m hm _ _ m2 hm2 c3 hc3
    refine swn hc3 (fun h0 => hf1 (fun e => h0 (by rw [hm, hm2, e]))) (fun h0 => ?_)
    have hl1 : n1.length = n2.length := by omega
    rintro _ _ m3 hm3 _ _ m4 hm4 c4 hc4
    refine swn hc4 (fun h1 => hf2 (fun e => h1 (by rw [hm3, hm4, e]))) (fun h1 => ?_)
    have hl2 : c1.length = c2.length := by omega
    rintro _ _ _ rfl
    refine loop_intro (A := L11 (.sl p1 16 .str n1) (.sl p2 16 EvT c1) (.sl p3 16 .str n2) (.sl p4 16 EvT c2) n1 n2) (0 : Nat) ?_ ⟨by simp, by simp⟩ ?_
    · simp (maxSteps:=9^9) only [L11_I, go_sem, Int.reduceLT, Int.reduceLE, Int.reduceEq, Int.reduceNe, Int.reduceAdd, Int.reduceSub, Int.reduceMul, Int.reduceToNat, Int.reduceNeg, Nat.reduceEqDiff, Nat.reduceLeDiff, Nat.reduceSub, Nat.reduceMul, Nat.reduceLT, Nat.reduceBEq, Nat.reduceAdd]
      rfl
    · rintro (i : Nat) (⟨g1, g2⟩ : i ≤ n1.length ∧ (n1 : List ByteArray).take i = (n2 : List ByteArray).take i)
      simp (maxSteps:=9^9) only [L11_I, go_sem, Int.reduceLT, Int.reduceLE, Int.reduceEq, Int.reduceNe, Int.reduceAdd, Int.reduceSub, Int.reduceMul, Int.reduceToNat, Int.reduceNeg, Nat.reduceEqDiff, Nat.reduceLeDiff, Nat.reduceSub, Nat.reduceMul, Nat.reduceLT, Nat.reduceBEq, Nat.reduceAdd]
      intro c5 hc5
      refine swd hc5 (fun h2 => ?_) (fun h2 => ?_)
      · refine nd_intro h2 (nd_intro (by omega) ?_)
        intro c6 hc6
        refine swn hc6 (fun h3 => hf1 (fun e => h3 (by rw [e]))) (fun h3 => ?_)
        rintro _ _ m5 hm5
        rw [w64 (by omega)] at hm5
        rw [hm5, show (i : Int) + 1 = ((i + 1 : Nat) : Int) by omega]
        exact lpE_intro (A := L11 (.sl p1 16 .str n1) (.sl p2 16 EvT c1) (.sl p3 16 .str n2) (.sl p4 16 EvT c2) n1 n2) (i + 1 : Nat) rfl ⟨h2, take_next (t := .str) h2 (by omega) g2 h3⟩ (by show n1.length - (i + 1) < n1.length - i; omega)
      · have e1 : (n1 : List ByteArray) = n2 := by
          rw [List.take_of_length_le (by omega), List.take_of_length_le (by omega)] at g2
          exact g2
        rintro _ _ _ rfl
        refine loop_intro (A := M11 (.sl p1 16 .str n1) (.sl p2 16 EvT c1) (.sl p3 16 .str n2) (.sl p4 16 EvT c2) c1 c2) (0 : Nat) ?_ ⟨by simp, by simp⟩ ?_
        · simp (maxSteps:=9^9) only [M11_I, go_sem, Int.reduceLT, Int.reduceLE, Int.reduceEq, Int.reduceNe, Int.reduceAdd, Int.reduceSub, Int.reduceMul, Int.reduceToNat, Int.reduceNeg, Nat.reduceEqDiff, Nat.reduceLeDiff, Nat.reduceSub, Nat.reduceMul, Nat.reduceLT, Nat.reduceBEq, Nat.reduceAdd]
          rfl
        · rintro (j : Nat) (⟨k1, k2⟩ : j ≤ c1.length ∧ (c1 : List EvT.den).take j = (c2 : List EvT.den).take j)
          simp (maxSteps:=9^9) only [M11_I, go_sem, Int.reduceLT, Int.reduceLE, Int.reduceEq, Int.reduceNe, Int.reduceAdd, Int.reduceSub, Int.reduceMul, Int.reduceToNat, Int.reduceNeg, Nat.reduceEqDiff, Nat.reduceLeDiff, Nat.reduceSub, Nat.reduceMul, Nat.reduceLT, Nat.reduceBEq, Nat.reduceAdd]
          intro c6 hc6
          refine swd hc6 (fun h3 => ?_) (fun h3 => ?_)
          · refine nd_intro h3 (nd_intro (by omega) ?_)
            intro c7 hc7
            have hc7' : c7 = !decide (elt EvT c1 j = elt EvT c2 j) := by
              rw [hc7]
              congr 1
              rw [Bool.and_true, Bool.eq_iff_iff, Bool.and_eq_true, decide_eq_true_eq, decide_eq_true_eq, decide_eq_true_eq]
              exact ⟨fun h => Prod.ext h.1 h.2, fun h => by rw [h]; exact ⟨rfl, rfl⟩⟩
            refine swn hc7' (fun h4 => hf2 (fun e => h4 (by rw [e]))) (fun h4 => ?_)
            rintro _ _ m5 hm5
            rw [w64 (by omega)] at hm5
            rw [hm5, show (j : Int) + 1 = ((j + 1 : Nat) : Int) by omega]
            exact lpE_intro (A := M11 (.sl p1 16 .str n1) (.sl p2 16 EvT c1) (.sl p3 16 .str n2) (.sl p4 16 EvT c2) c1 c2) (j + 1 : Nat) rfl ⟨h3, take_next (t := EvT) h3 (by omega) k2 h4⟩ (by show c1.length - (j + 1) < c1.length - j; omega)
          · refine ht e1 ?_
            rw [List.take_of_length_le (by omega), List.take_of_length_le (by omega)] at k2
            exact k2
  · exact h.elim
def C11 : Contract := fun args hp K => match args, hp with
 | [.agg [x, y], .agg [z, u]], [] => onL .str 16 x fun n1 => onL EvT 16 y fun c1 => onL .str 16 z fun n2 => onL EvT 16 u fun c2 => K (.bool (decide ((n1 : List ByteArray) = n2) && decide ((c1 : List EvT.den) = c2))) []
 | _, _ => False
theorem s11 : Sound Tryd.prog 11 C11 := by
 intro args hp K h E vs hs hg hd
 unfold C11 at h
 split at h
 ·rename_i x y z u
  obtain ⟨p1, n1, h, a1, d1⟩ := onL_den h
  obtain ⟨p2, c1, h, a2, d2⟩ := onL_den h
  obtain ⟨p3, n2, h, a3, d3⟩ := onL_den h
  obtain ⟨p4, c2, h, a4, d4⟩ := onL_den h
  refine s11a [.agg [.sl p1 16 .str n1, .sl p2 16 EvT c1], .agg [.sl p3 16 .str n2, .sl p4 16 EvT c2]] [] K h E vs hs hg ?_
  simp only [denL] at hd ⊢
  obtain ⟨v, r, rfl, h1, v2, r2, rfl, h2, rfl⟩ := hd
  exact ⟨v, _, rfl, agg_den a1 a2 rfl rfl (d1 E) (d2 E) h1, v2, _, rfl, agg_den a3 a4 rfl rfl (d3 E) (d4 E) h2, rfl⟩
 ·exact h.elim
def C8 : Contract := fun args hp K => match args, hp with
 | [], [] => K (.bool true) []
 | _, _ => False
theorem awake_txt : parseGo (linesL [110, 97, 109, 101, 32, 54, 50, 10, 108, 111, 97, 100, 32, 48, 10, 112, 117, 115, 104, 32, 49, 10, 97, 100, 100, 10, 115, 116, 111, 114, 101, 32, 48, 10]) 1 [] [] false = .fin [bsOf [98]] [(2, 0), (1, 1), (6, 0), (3, 0)] false := by
 rfl
theorem pOut_fin {K : SV → List SB → Prop} {ns cs late} : pOut K (.fin ns cs late) = if late = true ∨ formP ns cs = false then K (.tup [.agg [.nils, .nils], .int .i64 0, .int .i64 2]) [] else K (.tup [.agg [.sl true 16 .str ns, .sl true 16 EvT cs], .int .i64 0, .int .i64 0]) [] := rfl
theorem pOut_bad {K : SV → List SB → Prop} {i} : pOut K (.bad i) = K (.tup [.agg [.nils, .nils], .int .i64 i, .int .i64 2]) [] := rfl
theorem use9 {s : ByteArray} {K : SV → List SB → Prop} (h1 : 20000 < s.size → K (.tup [.agg [.nils, .nils], .int .i64 0, .int .i64 4]) []) (h2 : s.size ≤ 20000 → pOut K (parseGo (linesL s.data.toList) 1 [] [] false)) : C9 [.str s] [] K := ⟨h1, h2⟩
theorem s8 : Sound Tryd.prog 8 C8 := by
 refine sound_of_okF ok8 (.cons s9 (callable_of_okF ok9) .nil) ?_
 intro args hp K h
 unfold C8 at h
 split at h
 ·refine ⟨by simp, [], ?_⟩
  simp (maxSteps:=9^9) only [a8, r8, go_sem, Int.reduceLT, Int.reduceLE, Int.reduceEq, Int.reduceNe, Int.reduceAdd, Int.reduceSub, Int.reduceMul, Int.reduceToNat, Int.reduceNeg, Nat.reduceEqDiff, Nat.reduceLeDiff, Nat.reduceSub, Nat.reduceMul, Nat.reduceLT, Nat.reduceBEq, Nat.reduceAdd]
  refine use9 (fun h => absurd h (by decide)) (fun _ => ?_)
  have e := awake_txt
  have e2 : formP [bsOf [98]] [(2, 0), (1, 1), (6, 0), (3, 0)] = true := by rfl
  show pOut _ (parseGo (linesL [110, 97, 109, 101, 32, 54, 50, 10, 108, 111, 97, 100, 32, 48, 10, 112, 117, 115, 104, 32, 49, 10, 97, 100, 100, 10, 115, 116, 111, 114, 101, 32, 48, 10]) 1 [] [] false)
  rw [e, pOut_fin, if_neg (by rw [e2]; simp)]
  simp (maxSteps:=9^9) only [go_sem, Int.reduceLT, Int.reduceLE, Int.reduceEq, Int.reduceNe, Int.reduceAdd, Int.reduceSub, Int.reduceMul, Int.reduceToNat, Int.reduceNeg, Nat.reduceEqDiff, Nat.reduceLeDiff, Nat.reduceSub, Nat.reduceMul, Nat.reduceLT, Nat.reduceBEq, Nat.reduceAdd]
  intro _ m hm c hc
  refine swd hc (fun _ => ?_) (fun h0 => absurd hm h0)
  intro c1 hc1
  refine swd hc1 (fun _ => ?_) (fun h0 => absurd (by rfl) h0)
  intro _ m2 hm2 c2 hc2
  refine swd hc2 (fun _ => ?_) (fun h0 => absurd hm2 h0)
  refine nd_intro (by omega) ?_
  intro c3 hc3
  have e3 : c3 = true := by rw [hc3]; rfl
  rw [e3]
  exact h
 ·exact h.elim
theorem use12 {ns : List ByteArray} {cs : List EvT.den} {K : SV → List SB → Prop} (h1 : ns.length ≤ 100000) (h2 : cs.length ≤ 100000) (h : K (.agg [.sl true 16 .str ns, .sl true 16 EvT cs]) []) : C12 [.agg [.sl true 16 .str ns, .sl true 16 EvT cs]] [] K := .inr ⟨_, _, rfl, .inr ⟨_, _, rfl, h1, h2, h⟩⟩
theorem use11 {n1 n2 : List ByteArray} {c1 c2 : List EvT.den} {K : SV → List SB → Prop} (h : K (.bool (decide (n1 = n2) && decide (c1 = c2))) []) : C11 [.agg [.sl true 16 .str n1, .sl true 16 EvT c1], .agg [.sl true 16 .str n2, .sl true 16 EvT c2]] [] K := .inr ⟨_, _, rfl, .inr ⟨_, _, rfl, .inr ⟨_, _, rfl, .inr ⟨_, _, rfl, h⟩⟩⟩⟩
end Go.V
