/- A part of the proof layer, or functions of the given program in it: contracts and their proofs. -/
import Derived.Test.YthfkoeoaehkoaaaGreatDoorMS12
import Derived.Test.YthfkoeoaehkoaaaGreatDoorX2
import Derived.Test.YthfkoeoaehkoaaaGreatDoorMT4
namespace Go.V
open Go.Proofs
set_option maxRecDepth 100000
set_option maxHeartbeats 8000000
set_option linter.unusedSimpArgs false
set_option linter.unnecessarySimpa false
set_option linter.unusedVariables false
attribute [local irreducible] rc
def Rn : Run := runF XT 10000 100
theorem rn_sound (f : Nat) : Sound Tryz.prog f (CX Rn f) := runF_sound XT_ok 10000 100 f
theorem isTrue_eq {o : Outs (SV × List SB)} (h : isTrue o = true) : o = some [(.bool true, [])] := by
 unfold isTrue at h
 split at h
 ·rfl
 ·cases h
def C9 : Contract := fun args hp K => match args, hp with
 | [], [] => K (.bool true) []
 | _, _ => False
theorem s9 : Sound Tryz.prog 9 C9 := by
 intro args hp K h
 unfold C9 at h
 split at h
 ·exact rn_sound 9 _ _ K ⟨_, isTrue_eq run9, by simpa using h⟩
 ·exact h.elim
theorem s9_c : Callable Tryz.prog 9 := callable_of_okF xk9
end Go.V
namespace Go.V
open Go.Proofs
set_option maxRecDepth 100000
set_option maxHeartbeats 8000000
set_option linter.unusedSimpArgs false
set_option linter.unnecessarySimpa false
set_option linter.unusedVariables false
attribute [local irreducible] rc
section use
variable {K : SV → List SB → Prop}
theorem use9 (h : K (.bool true) []) : C9 [] [] K := h
theorem useP {s : ByteArray} (hs : s.size ≤ 1000000) (h1 : ∀ e, parseC s = .error e → K (.tup [zeroC, .int .i64 e]) []) (h2 : ∀ c, parseC s = .ok c → K (.tup [cmdV c, .int .i64 0]) []) : CParse [.str s] [] K := ⟨hs, h1, h2⟩
theorem use13z (h : K zeroC []) : C13 [zeroC] [] K := ⟨.inl ⟨rfl, rfl⟩, h⟩
theorem use13c {c : Cmd} (h : K (cmdV c) []) : C13 [cmdV c] [] K := ⟨.inr ⟨_, _, rfl, rfl⟩, h⟩
theorem use12z (h : K (.bool true) []) : C12 [zeroC, zeroC] [] K := .inl ⟨rfl, .inl ⟨rfl, .inl ⟨rfl, .inl ⟨rfl, h⟩⟩⟩⟩
theorem use12c {c : Cmd} (h : K (.bool true) []) : C12 [cmdV c, cmdV c] [] K := .inr ⟨_, _, rfl, .inr ⟨_, _, rfl, .inr ⟨_, _, rfl, .inr ⟨_, _, rfl, by
 have e : (decide (c.word = c.word ∧ (c.client : Int) = c.client ∧ (c.serial : Int) = c.serial ∧ c.keys = c.keys ∧ c.ints = c.ints)) = true := decide_eq_true ⟨rfl, rfl, rfl, rfl, rfl⟩
 show K (.bool (decide (c.word = c.word ∧ (c.client : Int) = c.client ∧ (c.serial : Int) = c.serial ∧ c.keys = c.keys ∧ c.ints = c.ints))) []
 rw [e]
 exact h⟩⟩⟩⟩
end use
def C3 : Contract := fun args hp K => match args, hp with
 | [.str s], [] => K (.bool true) []
 | _, _ => False
attribute [local irreducible] C9 CParse C12 C13
theorem s3 : Sound Tryz.prog 3 C3 := by
 refine sound_of_okF ok3 (.cons s9 s9_c (.cons s10 (callable_of_okF ok10) (.cons s11 (callable_of_okF ok11) (.cons s12 (callable_of_okF ok12) (.cons s13 (callable_of_okF ok13) .nil))))) ?_
 intro args hp K h
 unfold C3 at h
 split at h
 ·rename_i s
  refine ⟨by simp, [], ?_⟩
  simp (maxSteps:=9^9) only [a3, r3, go_sem, eq_self, and_self, Int.natCast_pos, Int.le_refl, Nat.le_refl, Int.natCast_nonneg, Int.ofNat_lt, Int.ofNat_le, Int.reduceLT, Int.reduceLE, Int.reduceEq, Int.reduceNe, Int.reduceAdd, Int.reduceSub, Int.reduceMul, Int.reduceToNat, Int.reduceNeg, Nat.reduceEqDiff, Nat.reduceLeDiff, Nat.reduceSub, Nat.reduceMul, Nat.reduceLT, Nat.reduceBEq, Nat.reduceAdd, Nat.reduceDiv, Nat.reduceMod]
  refine use9 ?_
  simp (maxSteps:=9^9) only [go_sem, eq_self, and_self, Int.natCast_pos, Int.le_refl, Nat.le_refl, Int.natCast_nonneg, Int.ofNat_lt, Int.ofNat_le, Int.reduceLT, Int.reduceLE, Int.reduceEq, Int.reduceNe, Int.reduceAdd, Int.reduceSub, Int.reduceMul, Int.reduceToNat, Int.reduceNeg, Nat.reduceEqDiff, Nat.reduceLeDiff, Nat.reduceSub, Nat.reduceMul, Nat.reduceLT, Nat.reduceBEq, Nat.reduceAdd, Nat.reduceDiv, Nat.reduceMod]
  intro _ m hm c hc
  refine swd9 hc (fun hl => ?_) (fun hl => ?_)
  ·refine use9 ?_
   simp (maxSteps:=9^9) only [go_sem, eq_self, and_self, Int.natCast_pos, Int.le_refl, Nat.le_refl, Int.natCast_nonneg, Int.ofNat_lt, Int.ofNat_le, Int.reduceLT, Int.reduceLE, Int.reduceEq, Int.reduceNe, Int.reduceAdd, Int.reduceSub, Int.reduceMul, Int.reduceToNat, Int.reduceNeg, Nat.reduceEqDiff, Nat.reduceLeDiff, Nat.reduceSub, Nat.reduceMul, Nat.reduceLT, Nat.reduceBEq, Nat.reduceAdd, Nat.reduceDiv, Nat.reduceMod]
   exact h
  refine useP (by omega) (fun e he => ?_) (fun c he => ?_)
  ·simp (maxSteps:=9^9) only [zeroC, go_sem, eq_self, and_self, Int.natCast_pos, Int.le_refl, Nat.le_refl, Int.natCast_nonneg, Int.ofNat_lt, Int.ofNat_le, Int.reduceLT, Int.reduceLE, Int.reduceEq, Int.reduceNe, Int.reduceAdd, Int.reduceSub, Int.reduceMul, Int.reduceToNat, Int.reduceNeg, Nat.reduceEqDiff, Nat.reduceLeDiff, Nat.reduceSub, Nat.reduceMul, Nat.reduceLT, Nat.reduceBEq, Nat.reduceAdd, Nat.reduceDiv, Nat.reduceMod]
   refine useP (by omega) (fun e' he' => ?_) (fun c he' => ?_)
   ·rw [he] at he'
    cases he'
    simp (maxSteps:=9^9) only [zeroC, go_sem, eq_self, and_self, Int.natCast_pos, Int.le_refl, Nat.le_refl, Int.natCast_nonneg, Int.ofNat_lt, Int.ofNat_le, Int.reduceLT, Int.reduceLE, Int.reduceEq, Int.reduceNe, Int.reduceAdd, Int.reduceSub, Int.reduceMul, Int.reduceToNat, Int.reduceNeg, Nat.reduceEqDiff, Nat.reduceLeDiff, Nat.reduceSub, Nat.reduceMul, Nat.reduceLT, Nat.reduceBEq, Nat.reduceAdd, Nat.reduceDiv, Nat.reduceMod]
    refine use13z ?_
    simp (maxSteps:=9^9) only [zeroC, go_sem, eq_self, and_self, Int.natCast_pos, Int.le_refl, Nat.le_refl, Int.natCast_nonneg, Int.ofNat_lt, Int.ofNat_le, Int.reduceLT, Int.reduceLE, Int.reduceEq, Int.reduceNe, Int.reduceAdd, Int.reduceSub, Int.reduceMul, Int.reduceToNat, Int.reduceNeg, Nat.reduceEqDiff, Nat.reduceLeDiff, Nat.reduceSub, Nat.reduceMul, Nat.reduceLT, Nat.reduceBEq, Nat.reduceAdd, Nat.reduceDiv, Nat.reduceMod]
    refine use12z ?_
    simp (maxSteps:=9^9) only [go_sem, eq_self, and_self, Int.natCast_pos, Int.le_refl, Nat.le_refl, Int.natCast_nonneg, Int.ofNat_lt, Int.ofNat_le, Int.reduceLT, Int.reduceLE, Int.reduceEq, Int.reduceNe, Int.reduceAdd, Int.reduceSub, Int.reduceMul, Int.reduceToNat, Int.reduceNeg, Nat.reduceEqDiff, Nat.reduceLeDiff, Nat.reduceSub, Nat.reduceMul, Nat.reduceLT, Nat.reduceBEq, Nat.reduceAdd, Nat.reduceDiv, Nat.reduceMod]
    exact h
   ·rw [he] at he'
    cases he'
  ·simp (maxSteps:=9^9) only [cmdV, go_sem, eq_self, and_self, Int.natCast_pos, Int.le_refl, Nat.le_refl, Int.natCast_nonneg, Int.ofNat_lt, Int.ofNat_le, Int.reduceLT, Int.reduceLE, Int.reduceEq, Int.reduceNe, Int.reduceAdd, Int.reduceSub, Int.reduceMul, Int.reduceToNat, Int.reduceNeg, Nat.reduceEqDiff, Nat.reduceLeDiff, Nat.reduceSub, Nat.reduceMul, Nat.reduceLT, Nat.reduceBEq, Nat.reduceAdd, Nat.reduceDiv, Nat.reduceMod]
   refine useP (by omega) (fun e' he' => ?_) (fun c he' => ?_)
   ·rw [he] at he'
    cases he'
   ·rw [he] at he'
    cases he'
    simp (maxSteps:=9^9) only [cmdV, go_sem, eq_self, and_self, Int.natCast_pos, Int.le_refl, Nat.le_refl, Int.natCast_nonneg, Int.ofNat_lt, Int.ofNat_le, Int.reduceLT, Int.reduceLE, Int.reduceEq, Int.reduceNe, Int.reduceAdd, Int.reduceSub, Int.reduceMul, Int.reduceToNat, Int.reduceNeg, Nat.reduceEqDiff, Nat.reduceLeDiff, Nat.reduceSub, Nat.reduceMul, Nat.reduceLT, Nat.reduceBEq, Nat.reduceAdd, Nat.reduceDiv, Nat.reduceMod]
    refine use13c ?_
    simp (maxSteps:=9^9) only [cmdV, go_sem, eq_self, and_self, Int.natCast_pos, Int.le_refl, Nat.le_refl, Int.natCast_nonneg, Int.ofNat_lt, Int.ofNat_le, Int.reduceLT, Int.reduceLE, Int.reduceEq, Int.reduceNe, Int.reduceAdd, Int.reduceSub, Int.reduceMul, Int.reduceToNat, Int.reduceNeg, Nat.reduceEqDiff, Nat.reduceLeDiff, Nat.reduceSub, Nat.reduceMul, Nat.reduceLT, Nat.reduceBEq, Nat.reduceAdd, Nat.reduceDiv, Nat.reduceMod]
    refine use12c ?_
    simp (maxSteps:=9^9) only [go_sem, eq_self, and_self, Int.natCast_pos, Int.le_refl, Nat.le_refl, Int.natCast_nonneg, Int.ofNat_lt, Int.ofNat_le, Int.reduceLT, Int.reduceLE, Int.reduceEq, Int.reduceNe, Int.reduceAdd, Int.reduceSub, Int.reduceMul, Int.reduceToNat, Int.reduceNeg, Nat.reduceEqDiff, Nat.reduceLeDiff, Nat.reduceSub, Nat.reduceMul, Nat.reduceLT, Nat.reduceBEq, Nat.reduceAdd, Nat.reduceDiv, Nat.reduceMod]
    exact h
 ·exact h.elim
end Go.V
namespace Go.V
open Go.Proofs
set_option maxRecDepth 100000
set_option maxHeartbeats 8000000
set_option linter.unusedSimpArgs false
set_option linter.unnecessarySimpa false
set_option linter.unusedVariables false
attribute [local irreducible] rc
/-! ### ShellPrints, ShellBack, ShellWords -/
section use
variable {K : SV → List SB → Prop}
theorem use15 {w : ByteArray} {p q : Bool} {ks : List ByteArray} {c s : Int} {ns : List Int} (h : ∀ b : Bool, (b = true → (∀ k ∈ ks, k.size ≤ 1000) ∧ ks.length ≤ 101 ∧ ns.length ≤ 500 ∧ w.size ≤ 1000) → K (.bool b) []) : C15 [.agg [.str w, .sl p 16 .str ks, .int .u64 c, .int .u64 s, .sl q 8 (.int .i64) ns]] [] K := h
theorem use17 {w : ByteArray} {p q : Bool} {ks : List ByteArray} {c s : Int} {ns : List Int} (h1 : ks.length ≤ 100000) (h2 : ns.length ≤ 100000) (h : K (.agg [.str w, .sl true 16 .str ks, .int .u64 c, .int .u64 s, .sl true 8 (.int .i64) ns]) []) : C17 [.agg [.str w, .sl p 16 .str ks, .int .u64 c, .int .u64 s, .sl q 8 (.int .i64) ns]] [] K := ⟨h1, h2, h⟩
theorem usePr (c : Cmd) {p q : Bool} (hc : cmdOk c) (h1 : printC c = none → K (.tup [.str ByteArray.empty, .int .i64 1]) []) (h2 : ∀ t, printC c = some t → K (.tup [.str t, .int .i64 0]) []) : CPrint [.agg [.str c.word, .sl p 16 .str c.keys, .int .u64 c.client, .int .u64 c.serial, .sl q 8 (.int .i64) c.ints]] [] K := ⟨c, rfl, rfl, rfl, rfl, rfl, hc, h1, h2⟩
theorem use3 {s : ByteArray} (h : K (.bool true) []) : C3 [.str s] [] K := h
end use
def rngC (c s : Int) (ns : List Int) : Prop := (0 ≤ c ∧ c ≤ 18446744073709551615) ∧ (0 ≤ s ∧ s ≤ 18446744073709551615) ∧ ∀ n ∈ ns, inR .i64 n
attribute [local irreducible] C9 C15 C17 CPrint CParse C12 C13 C3
theorem rng_den {E : En} {w : ByteArray} {c s : Int} {ks : List ByteArray} {ns : List Int} {p q : Bool} {v : Value} (h : den E (.agg [.str w, .sl p 16 .str ks, .int .u64 c, .int .u64 s, .sl q 8 (.int .i64) ns]) v) : rngC c s ns := by
 simp only [den] at h
 obtain ⟨cs, rfl, h⟩ := h
 rw [denC_cons rfl] at h
 obtain ⟨v1, c2, e1, d1, h⟩ := h
 rw [denC_cons rfl] at h
 obtain ⟨v2, c3, e2, d2, h⟩ := h
 rw [denC_cons rfl] at h
 obtain ⟨v3, c4, e3, d3, h⟩ := h
 rw [denC_cons rfl] at h
 obtain ⟨v4, c5, e4, d4, h⟩ := h
 rw [denC_cons rfl] at h
 obtain ⟨v5, c6, e5, d5, h⟩ := h
 simp only [den] at d3 d4 d5
 refine ⟨d3.2, d4.2, ?_⟩
 rcases d5 with ⟨e, _⟩ | ⟨b, off, cap, cur, T, fr, cs, _, _, _, _, _, _, _, h8⟩
 ·rw [e]; simp
 ·have key : ∀ (xs : List Int) (cs : List Value), rdL (rd E.w (E.F q) (.int .i64)) xs cs → ∀ n ∈ xs, inR .i64 n := by
   intro xs
   induction xs with
   | nil => intro cs _ n hn; cases hn
   | cons x xs ih =>
    rintro cs ⟨a, b, rfl, h1, h2⟩ n hn
    simp only [rd] at h1
    rcases List.mem_cons.1 hn with rfl | hn
    ·exact h1.2
    ·exact ih b h2 n hn
  exact key ns cs h8
def C7r : Contract := fun args hp K => match args, hp with
 | [.agg [.str w, .sl p 16 .str ks, .int .u64 cl, .int .u64 se, .sl q 8 (.int .i64) ns], .str s], [] => rngC cl se ns ∧ K (.bool true) []
 | _, _ => False
theorem s7r : Sound Tryz.prog 7 C7r := by
 refine sound_of_okF ok7 (.cons s9 s9_c (.cons s15 (callable_of_okF ok15) (.cons s17 (callable_of_okF ok17) (.cons s16 (callable_of_okF ok16) (.cons s10 (callable_of_okF ok10) (.cons s3 (callable_of_okF ok3) .nil)))))) ?_
 intro args hp K h
 unfold C7r at h
 split at h
 ·rename_i w p ks cl se q ns s
  obtain ⟨⟨⟨r1, r2⟩, ⟨r3, r4⟩, r5'⟩, h⟩ := h
  obtain ⟨cn, rfl⟩ : ∃ n : Nat, cl = n := ⟨cl.toNat, by omega⟩
  obtain ⟨sn, rfl⟩ : ∃ n : Nat, se = n := ⟨se.toNat, by omega⟩
  refine ⟨by simp, [], ?_⟩
  have hmx := maxLen_val
  simp (maxSteps:=9^9) only [a7, r7, go_sem, eq_self, and_self, Int.natCast_pos, Int.le_refl, Nat.le_refl, Int.natCast_nonneg, Int.ofNat_lt, Int.ofNat_le, Int.reduceLT, Int.reduceLE, Int.reduceEq, Int.reduceNe, Int.reduceAdd, Int.reduceSub, Int.reduceMul, Int.reduceToNat, Int.reduceNeg, Nat.reduceEqDiff, Nat.reduceLeDiff, Nat.reduceSub, Nat.reduceMul, Nat.reduceLT, Nat.reduceBEq, Nat.reduceAdd, Nat.reduceDiv, Nat.reduceMod]
  refine use9 ?_
  simp (maxSteps:=9^9) only [go_sem, eq_self, and_self, Int.natCast_pos, Int.le_refl, Nat.le_refl, Int.natCast_nonneg, Int.ofNat_lt, Int.ofNat_le, Int.reduceLT, Int.reduceLE, Int.reduceEq, Int.reduceNe, Int.reduceAdd, Int.reduceSub, Int.reduceMul, Int.reduceToNat, Int.reduceNeg, Nat.reduceEqDiff, Nat.reduceLeDiff, Nat.reduceSub, Nat.reduceMul, Nat.reduceLT, Nat.reduceBEq, Nat.reduceAdd, Nat.reduceDiv, Nat.reduceMod]
  refine use15 (fun b hb => ?_)
  cases b with
  | false =>
   simp (maxSteps:=9^9) only [go_sem, eq_self, and_self, Int.natCast_pos, Int.le_refl, Nat.le_refl, Int.natCast_nonneg, Int.ofNat_lt, Int.ofNat_le, Int.reduceLT, Int.reduceLE, Int.reduceEq, Int.reduceNe, Int.reduceAdd, Int.reduceSub, Int.reduceMul, Int.reduceToNat, Int.reduceNeg, Nat.reduceEqDiff, Nat.reduceLeDiff, Nat.reduceSub, Nat.reduceMul, Nat.reduceLT, Nat.reduceBEq, Nat.reduceAdd, Nat.reduceDiv, Nat.reduceMod]
   refine use9 ?_
   simp (maxSteps:=9^9) only [go_sem, eq_self, and_self, Int.natCast_pos, Int.le_refl, Nat.le_refl, Int.natCast_nonneg, Int.ofNat_lt, Int.ofNat_le, Int.reduceLT, Int.reduceLE, Int.reduceEq, Int.reduceNe, Int.reduceAdd, Int.reduceSub, Int.reduceMul, Int.reduceToNat, Int.reduceNeg, Nat.reduceEqDiff, Nat.reduceLeDiff, Nat.reduceSub, Nat.reduceMul, Nat.reduceLT, Nat.reduceBEq, Nat.reduceAdd, Nat.reduceDiv, Nat.reduceMod]
   exact h
  | true =>
   obtain ⟨f1, f2, f3, f4⟩ := hb rfl
   have hc : cmdOk ⟨w, ks, cn, sn, ns⟩ := ⟨f4, f1, f2, f3, by show cn ≤ _; omega, by show sn ≤ _; omega, r5'⟩
   simp (maxSteps:=9^9) only [go_sem, eq_self, and_self, Int.natCast_pos, Int.le_refl, Nat.le_refl, Int.natCast_nonneg, Int.ofNat_lt, Int.ofNat_le, Int.reduceLT, Int.reduceLE, Int.reduceEq, Int.reduceNe, Int.reduceAdd, Int.reduceSub, Int.reduceMul, Int.reduceToNat, Int.reduceNeg, Nat.reduceEqDiff, Nat.reduceLeDiff, Nat.reduceSub, Nat.reduceMul, Nat.reduceLT, Nat.reduceBEq, Nat.reduceAdd, Nat.reduceDiv, Nat.reduceMod]
   intro _ m hm c0 hc0
   refine swd9 hc0 (fun hl => ?_) (fun hl => ?_)
   ·refine use9 ?_
    simp (maxSteps:=9^9) only [go_sem, eq_self, and_self, Int.natCast_pos, Int.le_refl, Nat.le_refl, Int.natCast_nonneg, Int.ofNat_lt, Int.ofNat_le, Int.reduceLT, Int.reduceLE, Int.reduceEq, Int.reduceNe, Int.reduceAdd, Int.reduceSub, Int.reduceMul, Int.reduceToNat, Int.reduceNeg, Nat.reduceEqDiff, Nat.reduceLeDiff, Nat.reduceSub, Nat.reduceMul, Nat.reduceLT, Nat.reduceBEq, Nat.reduceAdd, Nat.reduceDiv, Nat.reduceMod]
    exact h
   refine use17 (by omega) (by omega) ?_
   simp (maxSteps:=9^9) only [go_sem, eq_self, and_self, Int.natCast_pos, Int.le_refl, Nat.le_refl, Int.natCast_nonneg, Int.ofNat_lt, Int.ofNat_le, Int.reduceLT, Int.reduceLE, Int.reduceEq, Int.reduceNe, Int.reduceAdd, Int.reduceSub, Int.reduceMul, Int.reduceToNat, Int.reduceNeg, Nat.reduceEqDiff, Nat.reduceLeDiff, Nat.reduceSub, Nat.reduceMul, Nat.reduceLT, Nat.reduceBEq, Nat.reduceAdd, Nat.reduceDiv, Nat.reduceMod]
   refine usePr ⟨w, ks, cn, sn, ns⟩ hc (fun hn => ?_) (fun t ht => ?_)
   ·simp (maxSteps:=9^9) only [go_sem, eq_self, and_self, Int.natCast_pos, Int.le_refl, Nat.le_refl, Int.natCast_nonneg, Int.ofNat_lt, Int.ofNat_le, Int.reduceLT, Int.reduceLE, Int.reduceEq, Int.reduceNe, Int.reduceAdd, Int.reduceSub, Int.reduceMul, Int.reduceToNat, Int.reduceNeg, Nat.reduceEqDiff, Nat.reduceLeDiff, Nat.reduceSub, Nat.reduceMul, Nat.reduceLT, Nat.reduceBEq, Nat.reduceAdd, Nat.reduceDiv, Nat.reduceMod]
    exact h
   ·have hp0 := printC_some ht
    have hz := read_short hp0
    have h1 := blank_behind hp0
    have h2 := blank_ahead hp0
    have hb : (#[32] : Array UInt8).size = 1 := rfl
    simp (maxSteps:=9^9) only [go_sem, eq_self, and_self, Int.natCast_pos, Int.le_refl, Nat.le_refl, Int.natCast_nonneg, Int.ofNat_lt, Int.ofNat_le, Int.reduceLT, Int.reduceLE, Int.reduceEq, Int.reduceNe, Int.reduceAdd, Int.reduceSub, Int.reduceMul, Int.reduceToNat, Int.reduceNeg, Nat.reduceEqDiff, Nat.reduceLeDiff, Nat.reduceSub, Nat.reduceMul, Nat.reduceLT, Nat.reduceBEq, Nat.reduceAdd, Nat.reduceDiv, Nat.reduceMod]
    refine ⟨by rw [hb]; omega, fun u hu => ?_⟩
    have hu' : u = t ++ blankB := hu
    have hus : u.size = t.size + 1 := by rw [hu', size_app]; rfl
    subst hu'
    refine useP (by omega) (fun e he => ?_) (fun d hd => by rw [h1] at hd; cases hd)
    rw [h1] at he
    cases he
    simp (maxSteps:=9^9) only [zeroC, go_sem, eq_self, and_self, Int.natCast_pos, Int.le_refl, Nat.le_refl, Int.natCast_nonneg, Int.ofNat_lt, Int.ofNat_le, Int.reduceLT, Int.reduceLE, Int.reduceEq, Int.reduceNe, Int.reduceAdd, Int.reduceSub, Int.reduceMul, Int.reduceToNat, Int.reduceNeg, Nat.reduceEqDiff, Nat.reduceLeDiff, Nat.reduceSub, Nat.reduceMul, Nat.reduceLT, Nat.reduceBEq, Nat.reduceAdd, Nat.reduceDiv, Nat.reduceMod]
    refine ⟨by rw [hb]; omega, fun u2 hu2 => ?_⟩
    have hu2' : u2 = blankB ++ t := hu2
    have hu2s : u2.size = t.size + 1 := by rw [hu2', size_app]; show 1 + t.size = _; omega
    subst hu2'
    refine useP (by omega) (fun e he => ?_) (fun d hd => by rw [h2] at hd; cases hd)
    rw [h2] at he
    cases he
    simp (maxSteps:=9^9) only [zeroC, go_sem, eq_self, and_self, Int.natCast_pos, Int.le_refl, Nat.le_refl, Int.natCast_nonneg, Int.ofNat_lt, Int.ofNat_le, Int.reduceLT, Int.reduceLE, Int.reduceEq, Int.reduceNe, Int.reduceAdd, Int.reduceSub, Int.reduceMul, Int.reduceToNat, Int.reduceNeg, Nat.reduceEqDiff, Nat.reduceLeDiff, Nat.reduceSub, Nat.reduceMul, Nat.reduceLT, Nat.reduceBEq, Nat.reduceAdd, Nat.reduceDiv, Nat.reduceMod]
    refine ⟨by rw [hb]; omega, fun u3 hu3 => ?_⟩
    have hu3s : u3.size = t.size + 1 := by rw [hu3, size_app]; rfl
    refine ⟨by omega, fun u4 _ => use3 ?_⟩
    simp (maxSteps:=9^9) only [go_sem, eq_self, and_self, Int.natCast_pos, Int.le_refl, Nat.le_refl, Int.natCast_nonneg, Int.ofNat_lt, Int.ofNat_le, Int.reduceLT, Int.reduceLE, Int.reduceEq, Int.reduceNe, Int.reduceAdd, Int.reduceSub, Int.reduceMul, Int.reduceToNat, Int.reduceNeg, Nat.reduceEqDiff, Nat.reduceLeDiff, Nat.reduceSub, Nat.reduceMul, Nat.reduceLT, Nat.reduceBEq, Nat.reduceAdd, Nat.reduceDiv, Nat.reduceMod]
    exact h
 ·exact h.elim
def C7 : Contract := fun args hp K => match args, hp with
 | [.agg [.str w, .sl p 16 .str ks, .int .u64 cl, .int .u64 se, .sl q 8 (.int .i64) ns], .str s], [] => K (.bool true) []
 | _, _ => False
theorem s7 : Sound Tryz.prog 7 C7 := by
 intro args hp K h E vs hs hg hd
 unfold C7 at h
 split at h
 ·rename_i w p ks cl se q ns s
  have hd' := hd
  simp only [denL] at hd'
  obtain ⟨v, r, rfl, h1, v2, r2, rfl, h2, rfl⟩ := hd'
  have hC : C7r [.agg [.str w, .sl p 16 .str ks, .int .u64 cl, .int .u64 se, .sl q 8 (.int .i64) ns], .str s] [] K := ⟨rng_den h1, h⟩
  exact s7r _ [] K hC E _ hs hg hd
 ·exact h.elim
end Go.V
