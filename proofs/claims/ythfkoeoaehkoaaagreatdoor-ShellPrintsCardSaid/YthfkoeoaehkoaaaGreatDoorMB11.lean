/- A part of the proof layer, or functions of the given program in it: contracts and their proofs. -/
import Derived.Test.YthfkoeoaehkoaaaGreatDoorMN3
namespace Go.V
open Go.Proofs
set_option maxRecDepth 100000
set_option maxHeartbeats 4000000
set_option linter.unusedSimpArgs false
set_option linter.unnecessarySimpa false
set_option linter.unusedVariables false
def shapeR (w : ByteArray) : ByteArray :=
 if w = ⟨#[111, 102, 102, 101, 114]⟩ then ⟨#[99, 115, 107, 105, 97, 97, 97, 97]⟩ else
 if w = ⟨#[116, 105, 99, 107]⟩ then ⟨#[105]⟩ else
 if w = ⟨#[112, 105, 99, 107]⟩ ∨ w = ⟨#[114, 101, 108, 97, 121]⟩ ∨ w = ⟨#[112, 97, 114, 100, 111, 110]⟩ ∨ w = ⟨#[115, 116, 97, 116, 101]⟩ ∨ w = ⟨#[109, 97, 105, 108]⟩ then ⟨#[107]⟩ else
 if w = ⟨#[114, 101, 109, 105, 110, 100]⟩ then ⟨#[107, 110, 105, 105, 105]⟩ else
 if w = ⟨#[99, 97, 110, 99, 101, 108]⟩ then ⟨#[107, 110]⟩ else
 if w = ⟨#[115, 101, 114, 118, 101]⟩ ∨ w = ⟨#[99, 104, 101, 99, 107, 112, 111, 105, 110, 116]⟩ ∨ w = ⟨#[107, 101, 121, 115]⟩ ∨ w = ⟨#[99, 108, 111, 99, 107]⟩ then ByteArray.empty else ⟨#[63]⟩
def C32 : Contract := fun args hp K => match args, hp with
 | [.str w], [] => K (.str (shapeR w)) []
 | _, _ => False
attribute [local irreducible] rc
theorem s32 : Sound Tryz.prog 32 C32 := by
 refine sound_of_okF ok32 .nil ?_
 intro args hp K h
 unfold C32 at h
 split at h
 ·rename_i w
  refine ⟨by simp, [], ?_⟩
  simp (maxSteps:=9^9) only [a32, r32, go_sem, Int.reduceLT, Int.reduceLE, Int.reduceEq, Int.reduceNe, Int.reduceAdd, Int.reduceSub, Int.reduceMul, Int.reduceToNat, Int.reduceNeg, Nat.reduceEqDiff, Nat.reduceLeDiff, Nat.reduceSub, Nat.reduceMul, Nat.reduceLT, Nat.reduceBEq, Nat.reduceAdd, Nat.reduceDiv, Nat.reduceMod]
  intro c hc
  refine swd9 hc (fun e => (by unfold shapeR at h; rw [if_pos e] at h; exact h)) (fun n1 => ?_)
  intro c hc
  refine swd9 hc (fun e => (by unfold shapeR at h; rw [if_neg n1, if_pos e] at h; exact h)) (fun n2 => ?_)
  intro c hc
  refine swd9 hc (fun e => swd9 hc (fun _ => (by unfold shapeR at h; rw [if_neg n1, if_neg n2, if_pos (.inl e)] at h; exact h)) (fun e' => absurd e e')) (fun n30 => ?_)
  intro c hc
  refine swd9 hc (fun e => swd9 hc (fun _ => (by unfold shapeR at h; rw [if_neg n1, if_neg n2, if_pos (.inr (.inl e))] at h; exact h)) (fun e' => absurd e e')) (fun n31 => ?_)
  intro c hc
  refine swd9 hc (fun e => swd9 hc (fun _ => (by unfold shapeR at h; rw [if_neg n1, if_neg n2, if_pos (.inr (.inr (.inl e)))] at h; exact h)) (fun e' => absurd e e')) (fun n32 => ?_)
  intro c hc
  refine swd9 hc (fun e => swd9 hc (fun _ => (by unfold shapeR at h; rw [if_neg n1, if_neg n2, if_pos (.inr (.inr (.inr (.inl e))))] at h; exact h)) (fun e' => absurd e e')) (fun n33 => ?_)
  intro c hc
  refine swd9 hc (fun e => (by unfold shapeR at h; rw [if_neg n1, if_neg n2, if_pos (.inr (.inr (.inr (.inr e))))] at h; exact h)) (fun n34 => ?_)
  have n3 : ¬ _ := fun e => Or.elim e n30 (fun e => Or.elim e n31 (fun e => Or.elim e n32 (fun e => Or.elim e n33 n34)))
  intro c hc
  refine swd9 hc (fun e => (by unfold shapeR at h; rw [if_neg n1, if_neg n2, if_neg n3, if_pos e] at h; exact h)) (fun n4 => ?_)
  intro c hc
  refine swd9 hc (fun e => (by unfold shapeR at h; rw [if_neg n1, if_neg n2, if_neg n3, if_neg n4, if_pos e] at h; exact h)) (fun n5 => ?_)
  intro c hc
  refine swd9 hc (fun e => swd9 hc (fun _ => (by unfold shapeR at h; rw [if_neg n1, if_neg n2, if_neg n3, if_neg n4, if_neg n5, if_pos (.inl e)] at h; exact h)) (fun e' => absurd e e')) (fun n60 => ?_)
  intro c hc
  refine swd9 hc (fun e => swd9 hc (fun _ => (by unfold shapeR at h; rw [if_neg n1, if_neg n2, if_neg n3, if_neg n4, if_neg n5, if_pos (.inr (.inl e))] at h; exact h)) (fun e' => absurd e e')) (fun n61 => ?_)
  intro c hc
  refine swd9 hc (fun e => swd9 hc (fun _ => (by unfold shapeR at h; rw [if_neg n1, if_neg n2, if_neg n3, if_neg n4, if_neg n5, if_pos (.inr (.inr (.inl e)))] at h; exact h)) (fun e' => absurd e e')) (fun n62 => ?_)
  intro c hc
  refine swd9 hc (fun e => (by unfold shapeR at h; rw [if_neg n1, if_neg n2, if_neg n3, if_neg n4, if_neg n5, if_pos (.inr (.inr (.inr e)))] at h; exact h)) (fun n63 => ?_)
  have n6 : ¬ _ := fun e => Or.elim e n60 (fun e => Or.elim e n61 (fun e => Or.elim e n62 n63))
  unfold shapeR at h
  rw [if_neg n1, if_neg n2, if_neg n3, if_neg n4, if_neg n5, if_neg n6] at h
  exact h
 ·exact h.elim
def C74 : Contract := fun args hp K => match args, hp with
 | [.str s], [] => s.size ≤ 100000 ∧ (s = ⟨#[45]⟩ → K (.tup [.str ByteArray.empty, .bool true]) []) ∧ (¬ s = ⟨#[45]⟩ → (unhexF s = none → ∀ t : ByteArray, t.size ≤ 100000 → K (.tup [.str t, .bool false]) []) ∧ (∀ l, unhexF s = some l → K (.tup [.str (bsOf l), .bool (keyOk (bsOf l))]) []))
 | _, _ => False
theorem s74 : Sound Tryz.prog 74 C74 := by
 refine sound_of_okF ok74 (.cons s73 (callable_of_okF ok73) .nil) ?_
 intro args hp K h
 unfold C74 at h
 split at h
 ·rename_i s
  obtain ⟨hs, h1, h2⟩ := h
  refine ⟨by simp, [], ?_⟩
  simp (maxSteps:=9^9) only [a74, r74, go_sem, Int.reduceLT, Int.reduceLE, Int.reduceEq, Int.reduceNe, Int.reduceAdd, Int.reduceSub, Int.reduceMul, Int.reduceToNat, Int.reduceNeg, Nat.reduceEqDiff, Nat.reduceLeDiff, Nat.reduceSub, Nat.reduceMul, Nat.reduceLT, Nat.reduceBEq, Nat.reduceAdd, Nat.reduceDiv, Nat.reduceMod]
  intro c hc
  refine swd9 hc (fun e => h1 e) (fun e => ?_)
  obtain ⟨h3, h4⟩ := h2 e
  refine ⟨hs, fun hn t ht => ?_, fun l hl => ?_⟩
  ·simp (maxSteps:=9^9) only [go_sem, Int.reduceLT, Int.reduceLE, Int.reduceEq, Int.reduceNe, Int.reduceAdd, Int.reduceSub, Int.reduceMul, Int.reduceToNat, Int.reduceNeg, Nat.reduceEqDiff, Nat.reduceLeDiff, Nat.reduceSub, Nat.reduceMul, Nat.reduceLT, Nat.reduceBEq, Nat.reduceAdd, Nat.reduceDiv, Nat.reduceMod]
   exact h3 hn t ht
  ·simp (maxSteps:=9^9) only [go_sem, Int.reduceLT, Int.reduceLE, Int.reduceEq, Int.reduceNe, Int.reduceAdd, Int.reduceSub, Int.reduceMul, Int.reduceToNat, Int.reduceNeg, Nat.reduceEqDiff, Nat.reduceLeDiff, Nat.reduceSub, Nat.reduceMul, Nat.reduceLT, Nat.reduceBEq, Nat.reduceAdd, Nat.reduceDiv, Nat.reduceMod]
   exact h4 l hl
 ·exact h.elim
end Go.V
namespace Go.V
open Go.Proofs
set_option maxRecDepth 100000
set_option maxHeartbeats 4000000
set_option linter.unusedSimpArgs false
set_option linter.unnecessarySimpa false
set_option linter.unusedVariables false
theorem splitL_app {c : UInt8} : ∀ {w r : List UInt8}, w.contains c = false → splitL c (w ++ c :: r) = w :: splitL c r
 | [], r, _ => splitL_eq rfl
 | x :: w, r, h => by
  simp only [List.contains_cons, Bool.or_eq_false_iff] at h
  have hx : ¬ x = c := fun e => by subst e; simp at h
  exact splitL_ne hx (splitL_app h.2)
theorem extract_bs (s : ByteArray) (f i : Nat) : s.extract f i = bsOf ((s.data.toList.drop f).take (i - f)) := by
 apply ByteArray.ext
 apply Array.ext'
 simp [bsOf, ByteArray.data_extract, Array.toList_extract, List.extract_eq_take_drop]
structure G31 where
 f : Nat
 i : Nat
 out : List ByteArray
def R31 (s : ByteArray) (g : G31) : Prop :=
 (g.i ≤ s.size ∧ g.f ≤ g.i ∧ g.out ++ (splitL 32 (s.data.toList.drop g.f)).map bsOf = wordsB s ∧ ((s.data.toList.drop g.f).take (g.i - g.f)).contains 32 = false ∧ g.out.length ≤ g.i) ∨ (g.i = s.size + 1 ∧ g.f = s.size + 1 ∧ g.out = wordsB s)
def A31 (s : ByteArray) : LoopAnn := {
 G := G31
 I := fun g => ⟨[(0, .str s), (3, .own 0), (4, .int .i64 g.f), (5, .int .i64 g.i)], [.row true 16 .str g.out]⟩
 R := fun _ g => R31 s g
 μ := fun g => s.size + 1 - g.i }
theorem I31 (s) (g : G31) : (A31 s).I g = ⟨[(0, .str s), (3, .own 0), (4, .int .i64 g.f), (5, .int .i64 g.i)], [.row true 16 .str g.out]⟩ := rfl
def C31 : Contract := fun args hp K => match args, hp with
 | [.str s], [] => s.size ≤ 100000 ∧ K (.own 0) [.row true 16 .str (wordsB s)]
 | _, _ => False
attribute [local irreducible] rc
theorem s31 : Sound Tryz.prog 31 C31 := by
 refine sound_of_okF ok31 .nil ?_
 intro args hp K h
 unfold C31 at h
 split at h
 ·rename_i s
  obtain ⟨hs, h⟩ := h
  refine ⟨by simp, [(1, A31 s)], ?_⟩
  have hm := maxLen_val
  simp (maxSteps:=9^9) only [a31, r31, go_sem, Int.reduceLT, Int.reduceLE, Int.reduceEq, Int.reduceNe, Int.reduceAdd, Int.reduceSub, Int.reduceMul, Int.reduceToNat, Int.reduceNeg, Nat.reduceEqDiff, Nat.reduceLeDiff, Nat.reduceSub, Nat.reduceMul, Nat.reduceLT, Nat.reduceBEq, Nat.reduceAdd, Nat.reduceDiv, Nat.reduceMod]
  refine loop_intro (A := A31 s) (⟨0, 0, []⟩ : G31) ?_ (.inl ⟨Nat.zero_le _, Nat.le_refl _, by simp [wordsB], by simp, by simp⟩) ?_
  ·simp (maxSteps:=9^9) only [I31, go_sem, Int.reduceLT, Int.reduceLE, Int.reduceEq, Int.reduceNe, Int.reduceAdd, Int.reduceSub, Int.reduceMul, Int.reduceToNat, Int.reduceNeg, Nat.reduceEqDiff, Nat.reduceLeDiff, Nat.reduceSub, Nat.reduceMul, Nat.reduceLT, Nat.reduceBEq, Nat.reduceAdd, Nat.reduceDiv, Nat.reduceMod]
   rfl
  rintro ⟨f, i, out⟩ hR
  simp (maxSteps:=9^9) only [I31, go_sem, Int.reduceLT, Int.reduceLE, Int.reduceEq, Int.reduceNe, Int.reduceAdd, Int.reduceSub, Int.reduceMul, Int.reduceToNat, Int.reduceNeg, Nat.reduceEqDiff, Nat.reduceLeDiff, Nat.reduceSub, Nat.reduceMul, Nat.reduceLT, Nat.reduceBEq, Nat.reduceAdd, Nat.reduceDiv, Nat.reduceMod]
  intro _ m hm1 c hc
  refine swd9 hc (fun hle => ?_) (fun hgt => ?_)
  ·rcases hR with ⟨g1, g2, g3, g4, g5⟩ | ⟨g1, g2, g3⟩
   ·change i ≤ s.size at g1
    change f ≤ i at g2
    change out ++ (splitL 32 (s.data.toList.drop f)).map bsOf = wordsB s at g3
    change ((s.data.toList.drop f).take (i - f)).contains 32 = false at g4
    change out.length ≤ i at g5
    have hlen : s.data.toList.length = s.size := by simp
    rintro _ m2 hm2 c2 hc2
    refine swd9 hc2 (fun hie => ?_) (fun hine => ?_)
    ·have his : i = s.size := by omega
     refine nd_intro ⟨g2, g1⟩ ?_
     rintro u rfl
     refine ⟨fun _ => by omega, fun _ => ?_⟩
     rintro _ _ m3 hm3 _ _ m4 hm4
     rw [w64 (by omega)] at hm3 hm4
     subst hm3 hm4
     have hall : (s.data.toList.drop f).take (i - f) = s.data.toList.drop f := List.take_of_length_le (by rw [List.length_drop, hlen]; omega)
     rw [hall] at g4
     rw [splitL_miss g4] at g3
     refine lpE_intro (A := A31 s) (⟨i + 1, i + 1, out ++ [s.extract f i]⟩ : G31) ?_ (.inr ⟨by show i + 1 = _; omega, by show i + 1 = _; omega, by show out ++ [s.extract f i] = wordsB s; rw [extract_bs, hall, ← g3]; rfl⟩) (by show s.size + 1 - (i + 1) < s.size + 1 - i; omega)
     simp (maxSteps:=9^9) only [I31, go_sem, Int.reduceLT, Int.reduceLE, Int.reduceEq, Int.reduceNe, Int.reduceAdd, Int.reduceSub, Int.reduceMul, Int.reduceToNat, Int.reduceNeg, Nat.reduceEqDiff, Nat.reduceLeDiff, Nat.reduceSub, Nat.reduceMul, Nat.reduceLT, Nat.reduceBEq, Nat.reduceAdd, Nat.reduceDiv, Nat.reduceMod]
     rfl
    ·have hlt : i < s.size := by omega
     refine nd_intro hlt ?_
     intro m5 hm5 c5 hc5
     have hget : s.data.toList[i]? = some (s.data.toList.getD i 0) := by
      rw [List.getD_eq_getElem?_getD, List.getElem?_eq_getElem (by rw [hlen]; exact hlt)]; rfl
     have hsplit : s.data.toList.drop i = s.data.toList.getD i 0 :: s.data.toList.drop (i + 1) := by
      rw [List.drop_eq_getElem_cons (by rw [hlen]; exact hlt)]
      congr 1
      rw [List.getElem?_eq_getElem (by rw [hlen]; exact hlt)] at hget
      exact Option.some.inj hget
     have hdf : s.data.toList.drop f = (s.data.toList.drop f).take (i - f) ++ s.data.toList.drop i := by
      have e := List.take_append_drop (i - f) (s.data.toList.drop f)
      rw [List.drop_drop, Nat.add_sub_cancel' g2] at e
      exact e.symm
     refine swd9 hc5 (fun h32 => ?_) (fun hn32 => ?_)
     ·have e32 : s.data.toList.getD i 0 = 32 := UInt8.toNat_inj.1 (by have : (32 : UInt8).toNat = 32 := rfl; omega)
      refine nd_intro ⟨g2, g1⟩ ?_
      rintro u rfl
      refine ⟨fun _ => by omega, fun _ => ?_⟩
      rintro _ _ m3 hm3 _ _ m4 hm4
      rw [w64 (by omega)] at hm3 hm4
      subst hm3 hm4
      rw [hdf, hsplit, e32, splitL_app g4] at g3
      refine lpE_intro (A := A31 s) (⟨i + 1, i + 1, out ++ [s.extract f i]⟩ : G31) ?_ (.inl ⟨hlt, Nat.le_refl _, by show (out ++ [s.extract f i]) ++ (splitL 32 (s.data.toList.drop (i + 1))).map bsOf = wordsB s; rw [extract_bs, ← g3]; simp, by show ((s.data.toList.drop (i + 1)).take ((i + 1) - (i + 1))).contains 32 = false; rw [Nat.sub_self]; rfl, by show (out ++ [s.extract f i]).length ≤ i + 1; rw [List.length_append]; simp; omega⟩) (by show s.size + 1 - (i + 1) < s.size + 1 - i; omega)
      simp (maxSteps:=9^9) only [I31, go_sem, Int.reduceLT, Int.reduceLE, Int.reduceEq, Int.reduceNe, Int.reduceAdd, Int.reduceSub, Int.reduceMul, Int.reduceToNat, Int.reduceNeg, Nat.reduceEqDiff, Nat.reduceLeDiff, Nat.reduceSub, Nat.reduceMul, Nat.reduceLT, Nat.reduceBEq, Nat.reduceAdd, Nat.reduceDiv, Nat.reduceMod]
      rfl
     ·have en : ¬ s.data.toList.getD i 0 = 32 := fun e => hn32 (by rw [hm5, e]; rfl)
      rintro _ _ m3 hm3
      rw [w64 (by omega)] at hm3
      subst hm3
      have hc1 : ([s.data.toList.getD i 0] : List UInt8).contains 32 = false := by
       generalize s.data.toList.getD i 0 = y at en ⊢
       simpa using fun e : (32 : UInt8) = y => en e.symm
      have htk : (s.data.toList.drop f).take (i + 1 - f) = (s.data.toList.drop f).take (i - f) ++ [s.data.toList.getD i 0] := by
       rw [show i + 1 - f = (i - f) + 1 by omega, List.take_add_one, List.getElem?_drop, Nat.add_sub_cancel' g2, hget]
       rfl
      refine lpE_intro (A := A31 s) (⟨f, i + 1, out⟩ : G31) ?_ (.inl ⟨hlt, by show f ≤ i + 1; omega, g3, by show ((s.data.toList.drop f).take (i + 1 - f)).contains 32 = false; rw [htk, List.contains_append, g4, hc1]; rfl, by show out.length ≤ i + 1; omega⟩) (by show s.size + 1 - (i + 1) < s.size + 1 - i; omega)
      simp (maxSteps:=9^9) only [I31, go_sem, Int.reduceLT, Int.reduceLE, Int.reduceEq, Int.reduceNe, Int.reduceAdd, Int.reduceSub, Int.reduceMul, Int.reduceToNat, Int.reduceNeg, Nat.reduceEqDiff, Nat.reduceLeDiff, Nat.reduceSub, Nat.reduceMul, Nat.reduceLT, Nat.reduceBEq, Nat.reduceAdd, Nat.reduceDiv, Nat.reduceMod]
      rfl
   ·change i = s.size + 1 at g1
    omega
  ·rcases hR with ⟨g1, g2, g3, g4, g5⟩ | ⟨g1, g2, g3⟩
   ·change i ≤ s.size at g1
    omega
   ·change out = wordsB s at g3
    subst g3
    exact h
 ·exact h.elim
end Go.V
namespace Go.V
open Go.Proofs
set_option maxRecDepth 100000
set_option maxHeartbeats 8000000
set_option linter.unusedSimpArgs false
set_option linter.unnecessarySimpa false
set_option linter.unusedVariables false
def cmdG (a b : Bool) (c : Cmd) : List SB := [.struct [.str c.word, .own 1, .int .u64 c.client, .int .u64 c.serial, .own 2], .row a 16 .str c.keys, .row b 8 (.int .i64) c.ints]
def stepR (k : UInt8) (s : ByteArray) (c : Cmd) : Option Cmd := if k = 97 then stepC 105 s c else stepC k s c
def kindR (k : UInt8) : Prop := k = 99 ∨ k = 115 ∨ k = 107 ∨ k = 110 ∨ k = 105 ∨ k = 97
def C33 : Contract := fun args hp K => match args with
 | [.ptr 0 0, .int .u8 m, .str s] => ∃ (k : UInt8) (c : Cmd), m = k.toNat ∧ kindR k ∧ hp = cmdG false false c ∧ (s.size ≤ 100000 ∧ c.keys.length ≤ 1000000 ∧ c.ints.length ≤ 1000000) ∧
   (stepR k s c = none → ∀ (c2 : Cmd) (a b : Bool), K (.bool false) (cmdG a b c2)) ∧ (∀ c', stepR k s c = some c' → ∀ a b : Bool, K (.bool true) (cmdG a b c'))
 | _ => False
section use
variable {K : SV → List SB → Prop}
theorem use72r {x : ByteArray} (hx : x.size ≤ 100000) (h0 : natF x.data.toList = none → K (.tup [.int .u64 0, .bool false]) []) (h1 : ∀ v : Nat, natF x.data.toList = some v → K (.tup [.int .u64 v, .bool true]) []) : C72 [.str x] [] K := ⟨hx, h0, h1⟩
theorem use75 {x : ByteArray} (hx : x.size ≤ 100000) (h0 : numI x.data.toList = none → K (.tup [.int .i64 0, .bool false]) []) (h1 : ∀ v : Int, numI x.data.toList = some v → K (.tup [.int .i64 v, .bool true]) []) : C75 [.str x] [] K := ⟨hx, h0, h1⟩
theorem use73 {x : ByteArray} (hx : x.size ≤ 100000) (h0 : unhexF x = none → ∀ t : ByteArray, t.size ≤ 100000 → K (.tup [.str t, .bool false]) []) (h1 : ∀ l, unhexF x = some l → K (.tup [.str (bsOf l), .bool (keyOk (bsOf l))]) []) : C73 [.str x] [] K := ⟨hx, h0, h1⟩
theorem use74 {x : ByteArray} (hx : x.size ≤ 100000) (hd : x = ⟨#[45]⟩ → K (.tup [.str ByteArray.empty, .bool true]) []) (h0 : ¬ x = ⟨#[45]⟩ → unhexF x = none → ∀ t : ByteArray, t.size ≤ 100000 → K (.tup [.str t, .bool false]) []) (h1 : ¬ x = ⟨#[45]⟩ → ∀ l, unhexF x = some l → K (.tup [.str (bsOf l), .bool (keyOk (bsOf l))]) []) : C74 [.str x] [] K := ⟨hx, hd, fun e => ⟨h0 e, h1 e⟩⟩
end use
attribute [local irreducible] rc C72 C73 C74 C75
theorem s33 : Sound Tryz.prog 33 C33 := by
 refine sound_of_okF ok33 (.cons s72 (callable_of_okF ok72) (.cons s73 (callable_of_okF ok73) (.cons s74 (callable_of_okF ok74) (.cons s75 (callable_of_okF ok75) .nil)))) ?_
 intro args hp K h
 unfold C33 at h
 split at h
 ·rename_i m s
  obtain ⟨k, c, rfl, hk, rfl, ⟨hs, hkl, hil⟩, h0, h1⟩ := h
  refine ⟨by simp [cmdG], [], ?_⟩
  have hm := maxLen_val
  have keq : ∀ n : UInt8, (k.toNat : Int) = n.toNat → k = n := fun n e => UInt8.toNat_inj.1 (by omega)
  simp (maxSteps:=9^9) only [a33, r33, cmdG, go_sem, Int.reduceLT, Int.reduceLE, Int.reduceEq, Int.reduceNe, Int.reduceAdd, Int.reduceSub, Int.reduceMul, Int.reduceToNat, Int.reduceNeg, Nat.reduceEqDiff, Nat.reduceLeDiff, Nat.reduceSub, Nat.reduceMul, Nat.reduceLT, Nat.reduceBEq, Nat.reduceAdd, Nat.reduceDiv, Nat.reduceMod]
  intro c99 hc99
  refine swd9 hc99 (fun e => ?_) (fun n99 => ?_)
  ·have k9 := keq 99 e
   subst k9
   refine use72r hs (fun hn => ?_) (fun v hv => ?_)
   ·simp (maxSteps:=9^9) only [go_sem, Int.reduceLT, Int.reduceLE, Int.reduceEq, Int.reduceNe, Int.reduceAdd, Int.reduceSub, Int.reduceMul, Int.reduceToNat, Int.reduceNeg, Nat.reduceEqDiff, Nat.reduceLeDiff, Nat.reduceSub, Nat.reduceMul, Nat.reduceLT, Nat.reduceBEq, Nat.reduceAdd, Nat.reduceDiv, Nat.reduceMod]
    exact h0 (by unfold stepR stepC; simp [hn]) { c with client := 0 } _ _
   ·simp (maxSteps:=9^9) only [go_sem, Int.reduceLT, Int.reduceLE, Int.reduceEq, Int.reduceNe, Int.reduceAdd, Int.reduceSub, Int.reduceMul, Int.reduceToNat, Int.reduceNeg, Nat.reduceEqDiff, Nat.reduceLeDiff, Nat.reduceSub, Nat.reduceMul, Nat.reduceLT, Nat.reduceBEq, Nat.reduceAdd, Nat.reduceDiv, Nat.reduceMod]
    exact h1 { c with client := v } (by unfold stepR stepC; simp [hv]) _ _
  have q99 : ¬ k = 99 := fun e => n99 (by rw [e]; rfl)
  intro c115 hc115
  refine swd9 hc115 (fun e => ?_) (fun n115 => ?_)
  ·have k9 := keq 115 e
   subst k9
   refine use72r hs (fun hn => ?_) (fun v hv => ?_)
   ·simp (maxSteps:=9^9) only [go_sem, Int.reduceLT, Int.reduceLE, Int.reduceEq, Int.reduceNe, Int.reduceAdd, Int.reduceSub, Int.reduceMul, Int.reduceToNat, Int.reduceNeg, Nat.reduceEqDiff, Nat.reduceLeDiff, Nat.reduceSub, Nat.reduceMul, Nat.reduceLT, Nat.reduceBEq, Nat.reduceAdd, Nat.reduceDiv, Nat.reduceMod]
    exact h0 (by unfold stepR stepC; simp [hn]) { c with serial := 0 } _ _
   ·simp (maxSteps:=9^9) only [go_sem, Int.reduceLT, Int.reduceLE, Int.reduceEq, Int.reduceNe, Int.reduceAdd, Int.reduceSub, Int.reduceMul, Int.reduceToNat, Int.reduceNeg, Nat.reduceEqDiff, Nat.reduceLeDiff, Nat.reduceSub, Nat.reduceMul, Nat.reduceLT, Nat.reduceBEq, Nat.reduceAdd, Nat.reduceDiv, Nat.reduceMod]
    exact h1 { c with serial := v } (by unfold stepR stepC; simp [hv]) _ _
  have q115 : ¬ k = 115 := fun e => n115 (by rw [e]; rfl)
  intro c107 hc107
  refine swd9 hc107 (fun e => swd9 hc107 (fun _ => ?_) (fun e' => absurd e e')) (fun n107 => ?_)
  ·have k9 := keq 107 e
   subst k9
   intro c4 hc4
   refine swd9 hc4 (fun _ => ?_) (fun e' => absurd e e')
   refine use73 hs (fun hn t ht => ?_) (fun l hl => ?_)
   ·simp (maxSteps:=9^9) only [go_sem, Int.reduceLT, Int.reduceLE, Int.reduceEq, Int.reduceNe, Int.reduceAdd, Int.reduceSub, Int.reduceMul, Int.reduceToNat, Int.reduceNeg, Nat.reduceEqDiff, Nat.reduceLeDiff, Nat.reduceSub, Nat.reduceMul, Nat.reduceLT, Nat.reduceBEq, Nat.reduceAdd, Nat.reduceDiv, Nat.reduceMod]
    exact ⟨fun _ => by omega, fun _ => h0 (by unfold stepR stepC; simp [hn]) { c with keys := c.keys ++ [t] } _ _⟩
   ·simp (maxSteps:=9^9) only [go_sem, Int.reduceLT, Int.reduceLE, Int.reduceEq, Int.reduceNe, Int.reduceAdd, Int.reduceSub, Int.reduceMul, Int.reduceToNat, Int.reduceNeg, Nat.reduceEqDiff, Nat.reduceLeDiff, Nat.reduceSub, Nat.reduceMul, Nat.reduceLT, Nat.reduceBEq, Nat.reduceAdd, Nat.reduceDiv, Nat.reduceMod]
    refine ⟨fun _ => by omega, fun _ => ?_⟩
    cases hko : keyOk (bsOf l) with
    | false => exact h0 (by unfold stepR stepC; simp [hl, hko]) { c with keys := c.keys ++ [bsOf l] } _ _
    | true => exact h1 { c with keys := c.keys ++ [bsOf l] } (by unfold stepR stepC; simp [hl, hko]) _ _
  have q107 : ¬ k = 107 := fun e => n107 (by rw [e]; rfl)
  intro c110 hc110
  refine swd9 hc110 (fun e => ?_) (fun n110 => ?_)
  ·have k9 := keq 110 e
   subst k9
   intro c4 hc4
   refine swd9 hc4 (fun e' => absurd e' n107) (fun _ => ?_)
   refine use74 hs (fun hd => ?_) (fun hd hn t ht => ?_) (fun hd l hl => ?_)
   ·simp (maxSteps:=9^9) only [go_sem, Int.reduceLT, Int.reduceLE, Int.reduceEq, Int.reduceNe, Int.reduceAdd, Int.reduceSub, Int.reduceMul, Int.reduceToNat, Int.reduceNeg, Nat.reduceEqDiff, Nat.reduceLeDiff, Nat.reduceSub, Nat.reduceMul, Nat.reduceLT, Nat.reduceBEq, Nat.reduceAdd, Nat.reduceDiv, Nat.reduceMod]
    exact ⟨fun _ => by omega, fun _ => h1 { c with keys := c.keys ++ [ByteArray.empty] } (by unfold stepR stepC; simp [hd]) _ _⟩
   ·simp (maxSteps:=9^9) only [go_sem, Int.reduceLT, Int.reduceLE, Int.reduceEq, Int.reduceNe, Int.reduceAdd, Int.reduceSub, Int.reduceMul, Int.reduceToNat, Int.reduceNeg, Nat.reduceEqDiff, Nat.reduceLeDiff, Nat.reduceSub, Nat.reduceMul, Nat.reduceLT, Nat.reduceBEq, Nat.reduceAdd, Nat.reduceDiv, Nat.reduceMod]
    exact ⟨fun _ => by omega, fun _ => h0 (by unfold stepR stepC; simp [hn, hd]) { c with keys := c.keys ++ [t] } _ _⟩
   ·simp (maxSteps:=9^9) only [go_sem, Int.reduceLT, Int.reduceLE, Int.reduceEq, Int.reduceNe, Int.reduceAdd, Int.reduceSub, Int.reduceMul, Int.reduceToNat, Int.reduceNeg, Nat.reduceEqDiff, Nat.reduceLeDiff, Nat.reduceSub, Nat.reduceMul, Nat.reduceLT, Nat.reduceBEq, Nat.reduceAdd, Nat.reduceDiv, Nat.reduceMod]
    refine ⟨fun _ => by omega, fun _ => ?_⟩
    cases hko : keyOk (bsOf l) with
    | false => exact h0 (by unfold stepR stepC; simp [hl, hko, hd]) { c with keys := c.keys ++ [bsOf l] } _ _
    | true => exact h1 { c with keys := c.keys ++ [bsOf l] } (by unfold stepR stepC; simp [hl, hko, hd]) _ _
  have q110 : ¬ k = 110 := fun e => n110 (by rw [e]; rfl)
  intro c105 hc105
  refine swd9 hc105 (fun e => swd9 hc105 (fun _ => ?_) (fun e' => absurd e e')) (fun n105 => ?_)
  ·have k9 := keq 105 e
   subst k9
   refine use75 hs (fun hn => ?_) (fun v hv => ?_)
   ·simp (maxSteps:=9^9) only [go_sem, Int.reduceLT, Int.reduceLE, Int.reduceEq, Int.reduceNe, Int.reduceAdd, Int.reduceSub, Int.reduceMul, Int.reduceToNat, Int.reduceNeg, Nat.reduceEqDiff, Nat.reduceLeDiff, Nat.reduceSub, Nat.reduceMul, Nat.reduceLT, Nat.reduceBEq, Nat.reduceAdd, Nat.reduceDiv, Nat.reduceMod]
    exact ⟨fun _ => by omega, fun _ => h0 (by unfold stepR stepC; simp [hn]) { c with ints := c.ints ++ [0] } _ _⟩
   ·simp (maxSteps:=9^9) only [go_sem, Int.reduceLT, Int.reduceLE, Int.reduceEq, Int.reduceNe, Int.reduceAdd, Int.reduceSub, Int.reduceMul, Int.reduceToNat, Int.reduceNeg, Nat.reduceEqDiff, Nat.reduceLeDiff, Nat.reduceSub, Nat.reduceMul, Nat.reduceLT, Nat.reduceBEq, Nat.reduceAdd, Nat.reduceDiv, Nat.reduceMod]
    exact ⟨fun _ => by omega, fun _ => h1 { c with ints := c.ints ++ [v] } (by unfold stepR stepC; simp [hv]) _ _⟩
  have q105 : ¬ k = 105 := fun e => n105 (by rw [e]; rfl)
  intro c97 hc97
  refine swd9 hc97 (fun e => ?_) (fun n97 => ?_)
  ·have k9 := keq 97 e
   subst k9
   refine use75 hs (fun hn => ?_) (fun v hv => ?_)
   ·simp (maxSteps:=9^9) only [go_sem, Int.reduceLT, Int.reduceLE, Int.reduceEq, Int.reduceNe, Int.reduceAdd, Int.reduceSub, Int.reduceMul, Int.reduceToNat, Int.reduceNeg, Nat.reduceEqDiff, Nat.reduceLeDiff, Nat.reduceSub, Nat.reduceMul, Nat.reduceLT, Nat.reduceBEq, Nat.reduceAdd, Nat.reduceDiv, Nat.reduceMod]
    exact ⟨fun _ => by omega, fun _ => h0 (by unfold stepR stepC; simp [hn]) { c with ints := c.ints ++ [0] } _ _⟩
   ·simp (maxSteps:=9^9) only [go_sem, Int.reduceLT, Int.reduceLE, Int.reduceEq, Int.reduceNe, Int.reduceAdd, Int.reduceSub, Int.reduceMul, Int.reduceToNat, Int.reduceNeg, Nat.reduceEqDiff, Nat.reduceLeDiff, Nat.reduceSub, Nat.reduceMul, Nat.reduceLT, Nat.reduceBEq, Nat.reduceAdd, Nat.reduceDiv, Nat.reduceMod]
    exact ⟨fun _ => by omega, fun _ => h1 { c with ints := c.ints ++ [v] } (by unfold stepR stepC; simp [hv]) _ _⟩
  ·have q97 : ¬ k = 97 := fun e => n97 (by rw [e]; rfl)
   rcases hk with e | e | e | e | e | e
   ·exact absurd e q99
   ·exact absurd e q115
   ·exact absurd e q107
   ·exact absurd e q110
   ·exact absurd e q105
   ·exact absurd e q97
 ·exact h.elim
end Go.V
namespace Go.V
set_option linter.unusedSimpArgs false
set_option linter.unnecessarySimpa false
set_option linter.unusedVariables false
def offerW : ByteArray := ⟨#[111, 102, 102, 101, 114]⟩
def fixK (k : UInt8) : UInt8 := if k = 97 then 105 else k
theorem stepR_fix (k : UInt8) (s : ByteArray) (c : Cmd) : stepR k s c = stepC (fixK k) s c := by
 unfold stepR fixK
 split <;> rfl
def goR : List UInt8 → List ByteArray → Cmd → Option Cmd
 | k :: ks, w :: ws, c => match stepR k w c with
  | some c' => goR ks ws c'
  | none => none
 | _, _, c => some c
theorem goR_fix : ∀ (ks : List UInt8) (ws : List ByteArray) (c : Cmd), goR ks ws c = goC (ks.map fixK) ws c
 | [], ws, c => by cases ws <;> rfl
 | k :: ks, [], c => rfl
 | k :: ks, w :: ws, c => by
  rw [goR, List.map_cons, goC, stepR_fix]
  cases stepC (fixK k) w c with
  | none => rfl
  | some c' => exact goR_fix ks ws c'
def kindsR (w : ByteArray) (n : Nat) : ByteArray := if w = offerW ∧ 4 ≤ n ∧ n ≤ 8 then bsOf (([99, 115, 107, 105, 97, 97, 97, 97] : List UInt8).take n) else shapeR w
def Tie (w : ByteArray) (n : Nat) : Prop := ∃ ks ks', kindsR w n = bsOf ks ∧ kindsF w n = some ks' ∧ ¬ shapeR w = ⟨#[63]⟩ ∧ (∀ k ∈ ks, kindR k) ∧ (n = ks.length → ks' = ks.map fixK) ∧ (n ≠ ks.length → n ≠ ks'.length)
theorem tie_of {w : ByteArray} {n : Nat} {l : List UInt8} (hw : ¬ w = offerW) (h1 : shapeR w = bsOf l) (h2 : kindsF w n = some l) (h3 : ¬ bsOf l = ⟨#[63]⟩) (h4 : ∀ k ∈ l, kindR k) (h5 : l.map fixK = l) : Tie w n :=
 ⟨l, l, by unfold kindsR; rw [if_neg (fun e => hw e.1), h1], h2, by rw [h1]; exact h3, h4, fun _ => h5.symm, fun e => e⟩
theorem tie_offer (n : Nat) : Tie offerW n := by
 have hF : kindsF offerW n = some ([99, 115, 107, 105] ++ List.replicate (min (n - 4) 4) 105) := by unfold kindsF; exact if_pos rfl
 have hS : shapeR offerW = bsOf [99, 115, 107, 105, 97, 97, 97, 97] := by unfold shapeR; exact (if_pos rfl).trans rfl
 by_cases h : 4 ≤ n ∧ n ≤ 8
 ·refine ⟨([99, 115, 107, 105, 97, 97, 97, 97] : List UInt8).take n, _, by unfold kindsR; rw [if_pos ⟨rfl, h⟩], hF, by rw [hS]; decide, fun k hk => ?_, fun _ => ?_, fun e => absurd (by rw [List.length_take]; simp; omega) e⟩
  ·have := List.mem_of_mem_take hk
   simp at this
   unfold kindR
   rcases this with e | e | e | e | e <;> simp [e]
  ·rcases (by omega : n = 4 ∨ n = 5 ∨ n = 6 ∨ n = 7 ∨ n = 8) with rfl | rfl | rfl | rfl | rfl <;> decide
 ·refine ⟨[99, 115, 107, 105, 97, 97, 97, 97], _, by unfold kindsR; rw [if_neg (fun e => h e.2), hS], hF, by rw [hS]; decide, fun k hk => ?_, fun e => ?_, fun e => ?_⟩
  ·simp at hk
   unfold kindR
   rcases hk with e | e | e | e | e <;> simp [e]
  ·exact absurd (by simp at e; omega) h
  ·rw [List.length_append, List.length_replicate]
   simp at e ⊢
   omega
instance (k : UInt8) : Decidable (kindR k) := by unfold kindR; infer_instance
theorem kinds_tie (w : ByteArray) (n : Nat) : (shapeR w = ⟨#[63]⟩ ∧ kindsF w n = none) ∨ Tie w n := by
 by_cases n1 : w = offerW
 ·subst n1
  exact .inr (tie_offer n)
 have n0 : ¬ w = ⟨#[111, 102, 102, 101, 114]⟩ := n1
 rcases Classical.em (w = ⟨#[116, 105, 99, 107]⟩) with e | n2
 ·exact .inr (tie_of n1 (l := [105]) (by unfold shapeR; rw [if_neg n0, if_pos e]; rfl) (by unfold kindsF; rw [if_neg n0, if_pos e]) (by decide) (by decide) (by decide))
 rcases Classical.em (w = ⟨#[112, 105, 99, 107]⟩ ∨ w = ⟨#[114, 101, 108, 97, 121]⟩ ∨ w = ⟨#[112, 97, 114, 100, 111, 110]⟩ ∨ w = ⟨#[115, 116, 97, 116, 101]⟩ ∨ w = ⟨#[109, 97, 105, 108]⟩) with e | n3
 ·exact .inr (tie_of n1 (l := [107]) (by unfold shapeR; rw [if_neg n0, if_neg n2, if_pos e]; rfl) (by unfold kindsF; rw [if_neg n0, if_neg n2, if_pos e]) (by decide) (by decide) (by decide))
 rcases Classical.em (w = ⟨#[114, 101, 109, 105, 110, 100]⟩) with e | n4
 ·exact .inr (tie_of n1 (l := [107, 110, 105, 105, 105]) (by unfold shapeR; rw [if_neg n0, if_neg n2, if_neg n3, if_pos e]; rfl) (by unfold kindsF; rw [if_neg n0, if_neg n2, if_neg n3, if_pos e]) (by decide) (by decide) (by decide))
 rcases Classical.em (w = ⟨#[99, 97, 110, 99, 101, 108]⟩) with e | n5
 ·exact .inr (tie_of n1 (l := [107, 110]) (by unfold shapeR; rw [if_neg n0, if_neg n2, if_neg n3, if_neg n4, if_pos e]; rfl) (by unfold kindsF; rw [if_neg n0, if_neg n2, if_neg n3, if_neg n4, if_pos e]) (by decide) (by decide) (by decide))
 rcases Classical.em (w = ⟨#[115, 101, 114, 118, 101]⟩ ∨ w = ⟨#[99, 104, 101, 99, 107, 112, 111, 105, 110, 116]⟩ ∨ w = ⟨#[107, 101, 121, 115]⟩ ∨ w = ⟨#[99, 108, 111, 99, 107]⟩) with e | n6
 ·exact .inr (tie_of n1 (l := []) (by unfold shapeR; rw [if_neg n0, if_neg n2, if_neg n3, if_neg n4, if_neg n5, if_pos e]; rfl) (by unfold kindsF; rw [if_neg n0, if_neg n2, if_neg n3, if_neg n4, if_neg n5, if_pos e]) (by decide) (by decide) (by decide))
 exact .inl ⟨by unfold shapeR; rw [if_neg n0, if_neg n2, if_neg n3, if_neg n4, if_neg n5, if_neg n6], by unfold kindsF; rw [if_neg n0, if_neg n2, if_neg n3, if_neg n4, if_neg n5, if_neg n6]⟩
end Go.V
namespace Go.V
open Go.Proofs
set_option maxRecDepth 100000
set_option maxHeartbeats 8000000
set_option linter.unusedSimpArgs false
set_option linter.unnecessarySimpa false
set_option linter.unusedVariables false
def A11 (w0 : ByteArray) (ws : List ByteArray) (ks : List UInt8) : LoopAnn := {
 G := G10
 I := fun g => ⟨[(2, .ptr 0 0), (4, .own 1), (5, .str (bsOf ks)), (6, .ptr 2 0), (48, .int .i64 ws.length), (49, .int .i64 g.i)],
  [.struct [.str ByteArray.empty, .nils, .int .u64 0, .int .u64 0, .nils], .row true 16 .str (w0 :: ws), .struct [.str g.c.word, .own 3, .int .u64 g.c.client, .int .u64 g.c.serial, .own 4], .row true 16 .str g.c.keys, .row true 8 (.int .i64) g.c.ints]⟩
 R := fun _ g => goR (ks.drop g.i) (ws.drop g.i) g.c = goR ks ws ⟨w0, [], 0, 0, []⟩ ∧ g.i ≤ ws.length ∧ g.c.keys.length ≤ g.i ∧ g.c.ints.length ≤ g.i
 μ := fun g => ws.length - g.i }
theorem I11 (w0 ws ks) (g : G10) : (A11 w0 ws ks).I g = ⟨[(2, .ptr 0 0), (4, .own 1), (5, .str (bsOf ks)), (6, .ptr 2 0), (48, .int .i64 ws.length), (49, .int .i64 g.i)],
  [.struct [.str ByteArray.empty, .nils, .int .u64 0, .int .u64 0, .nils], .row true 16 .str (w0 :: ws), .struct [.str g.c.word, .own 3, .int .u64 g.c.client, .int .u64 g.c.serial, .own 4], .row true 16 .str g.c.keys, .row true 8 (.int .i64) g.c.ints]⟩ := rfl
theorem step_len {k : UInt8} {x : ByteArray} {c c' : Cmd} (h : stepR k x c = some c') : c'.keys.length ≤ c.keys.length + 1 ∧ c'.ints.length ≤ c.ints.length + 1 := by
 rw [stepR_fix] at h
 unfold stepC at h
 split at h
 ·cases hn : natF x.data.toList with
  | none => rw [hn] at h; cases h
  | some v => rw [hn] at h; cases h; exact ⟨Nat.le_succ _, Nat.le_succ _⟩
 split at h
 ·cases hn : natF x.data.toList with
  | none => rw [hn] at h; cases h
  | some v => rw [hn] at h; cases h; exact ⟨Nat.le_succ _, Nat.le_succ _⟩
 split at h
 ·cases hn : numI x.data.toList with
  | none => rw [hn] at h; cases h
  | some v => rw [hn] at h; cases h; exact ⟨Nat.le_succ _, by simp⟩
 split at h
 ·cases h; exact ⟨by simp, Nat.le_succ _⟩
 split at h
 ·split at h
  ·cases h; exact ⟨by simp, Nat.le_succ _⟩
  ·cases h
 ·cases h
section use
variable {K : SV → List SB → Prop}
theorem use31 {s : ByteArray} (hs : s.size ≤ 100000) (k : K (.own 0) [.row true 16 .str (wordsB s)]) : C31 [.str s] [] K := ⟨hs, k⟩
theorem use32 {w : ByteArray} (k : K (.str (shapeR w)) []) : C32 [.str w] [] K := k
theorem use33 {k : UInt8} {m : Int} {s : ByteArray} {c : Cmd} (hm : m = k.toNat) (hk : kindR k) (hb : s.size ≤ 100000 ∧ c.keys.length ≤ 1000000 ∧ c.ints.length ≤ 1000000)
  (h0 : stepR k s c = none → ∀ (c2 : Cmd) (a b : Bool), K (.bool false) (cmdG a b c2)) (h1 : ∀ c', stepR k s c = some c' → ∀ a b : Bool, K (.bool true) (cmdG a b c')) :
  C33 [.ptr 0 0, .int .u8 m, .str s] (cmdG false false c) K := ⟨k, c, hm, hk, rfl, hb, h0, h1⟩
end use
attribute [local irreducible] rc C31 C32 C33
theorem s11 : Sound Tryz.prog 11 CParse := by
 refine sound_of_okF ok11 (.cons s31 (callable_of_okF ok31) (.cons s32 (callable_of_okF ok32) (.cons s33 (callable_of_okF ok33) .nil))) ?_
 intro args hp K h
 unfold CParse at h
 split at h
 ·rename_i s
  obtain ⟨hs, h1, h2⟩ := h
  obtain ⟨w0, ws, hw, hn⟩ := words_cons s
  rcases kinds_tie w0 ws.length with ⟨hq, hF⟩ | ⟨ks, ks', t1, t2, t3, t4, t5, t6⟩
  ·skip
   refine ⟨by simp, [], ?_⟩
   have hm := maxLen_val
   simp (maxSteps:=9^9) only [a11, r11, go_sem, Int.reduceLT, Int.reduceLE, Int.reduceEq, Int.reduceNe, Int.reduceAdd, Int.reduceSub, Int.reduceMul, Int.reduceToNat, Int.reduceNeg, Nat.reduceEqDiff, Nat.reduceLeDiff, Nat.reduceSub, Nat.reduceMul, Nat.reduceLT, Nat.reduceBEq, Nat.reduceAdd, Nat.reduceDiv, Nat.reduceMod]
   rintro _ m rfl c0 hc0
   refine swd9 hc0 (fun hl => ?_) (fun hl => ?_)
   ·exact h1 4 (by unfold parseC; rw [if_pos (by omega)])
   refine use31 (by omega) ?_
   have hp : parseC s = match kindsF w0 ws.length with
     | none => .error 2
     | some ks => if ws.length = ks.length then (match goC ks ws ⟨w0, [], 0, 0, []⟩ with
       | some c => .ok c
       | none => .error 2) else .error 2 := by
    unfold parseC
    rw [if_neg (by omega), hw]
    rfl
   have hw0 := hw
   rw [hw]
   rw [hp] at h1 h2
   clear hp hw
   simp (maxSteps:=9^9) only [go_sem, Int.reduceLT, Int.reduceLE, Int.reduceEq, Int.reduceNe, Int.reduceAdd, Int.reduceSub, Int.reduceMul, Int.reduceToNat, Int.reduceNeg, Nat.reduceEqDiff, Nat.reduceLeDiff, Nat.reduceSub, Nat.reduceMul, Nat.reduceLT, Nat.reduceBEq, Nat.reduceAdd, Nat.reduceDiv, Nat.reduceMod]
   have e2 : elt Ty.str (w0 :: ws) 0 = w0 := rfl
   refine nd_intro (by simp) ?_
   rw [e2]
   refine use32 ?_
   simp (maxSteps:=9^9) only [go_sem, Int.reduceLT, Int.reduceLE, Int.reduceEq, Int.reduceNe, Int.reduceAdd, Int.reduceSub, Int.reduceMul, Int.reduceToNat, Int.reduceNeg, Nat.reduceEqDiff, Nat.reduceLeDiff, Nat.reduceSub, Nat.reduceMul, Nat.reduceLT, Nat.reduceBEq, Nat.reduceAdd, Nat.reduceDiv, Nat.reduceMod]
   refine nd_intro (by simp) ?_
   intro c hc
   refine swd9 hc (fun _ => ?_) (fun e => absurd hq e)
   rw [hF] at h1
   exact h1 2 rfl
  ·skip
   refine ⟨by simp, [(1, A11 w0 ws ks)], ?_⟩
   have hm := maxLen_val
   simp (maxSteps:=9^9) only [a11, r11, go_sem, Int.reduceLT, Int.reduceLE, Int.reduceEq, Int.reduceNe, Int.reduceAdd, Int.reduceSub, Int.reduceMul, Int.reduceToNat, Int.reduceNeg, Nat.reduceEqDiff, Nat.reduceLeDiff, Nat.reduceSub, Nat.reduceMul, Nat.reduceLT, Nat.reduceBEq, Nat.reduceAdd, Nat.reduceDiv, Nat.reduceMod]
   rintro _ m rfl c0 hc0
   refine swd9 hc0 (fun hl => ?_) (fun hl => ?_)
   ·exact h1 4 (by unfold parseC; rw [if_pos (by omega)])
   refine use31 (by omega) ?_
   have hp : parseC s = match kindsF w0 ws.length with
     | none => .error 2
     | some ks => if ws.length = ks.length then (match goC ks ws ⟨w0, [], 0, 0, []⟩ with
       | some c => .ok c
       | none => .error 2) else .error 2 := by
    unfold parseC
    rw [if_neg (by omega), hw]
    rfl
   have hw0 := hw
   rw [hw]
   rw [hp] at h1 h2
   clear hp hw
   simp (maxSteps:=9^9) only [go_sem, Int.reduceLT, Int.reduceLE, Int.reduceEq, Int.reduceNe, Int.reduceAdd, Int.reduceSub, Int.reduceMul, Int.reduceToNat, Int.reduceNeg, Nat.reduceEqDiff, Nat.reduceLeDiff, Nat.reduceSub, Nat.reduceMul, Nat.reduceLT, Nat.reduceBEq, Nat.reduceAdd, Nat.reduceDiv, Nat.reduceMod]
   have e2 : elt Ty.str (w0 :: ws) 0 = w0 := rfl
   refine nd_intro (by simp) ?_
   rw [e2]
   refine use32 ?_
   simp (maxSteps:=9^9) only [go_sem, Int.reduceLT, Int.reduceLE, Int.reduceEq, Int.reduceNe, Int.reduceAdd, Int.reduceSub, Int.reduceMul, Int.reduceToNat, Int.reduceNeg, Nat.reduceEqDiff, Nat.reduceLeDiff, Nat.reduceSub, Nat.reduceMul, Nat.reduceLT, Nat.reduceBEq, Nat.reduceAdd, Nat.reduceDiv, Nat.reduceMod]
   rw [t2] at h1 h2
   refine nd_intro (by simp) ?_
   intro c hc
   refine swd9 hc (fun e => absurd e t3) (fun _ => ?_)
   rintro _ _ m rfl _ _ m1 hm1
   rw [w64 (by omega)] at hm1
   have hm1' : m1 = ws.length := by omega
   subst hm1'
   clear hm1
   refine nd_intro (by simp) ?_
   rw [e2]
   have hoffs : w0 = offerW ∧ 4 ≤ ws.length ∧ ws.length ≤ 8 → (⟨#[99, 115, 107, 105, 97, 97, 97, 97]⟩ : ByteArray).extract 0 ((ws.length : Int)).toNat = bsOf ks := fun e => by
    rw [← t1]
    unfold kindsR
    rw [if_pos e, extract_bs, Int.toNat_natCast]
    rfl
   have hnoff : ¬ (w0 = offerW ∧ 4 ≤ ws.length ∧ ws.length ≤ 8) → shapeR w0 = bsOf ks := fun e => by
    rw [← t1]
    unfold kindsR
    rw [if_neg e]
   intro c2 hc2
   refine swd9 hc2 (fun eo => ?_) (fun eo => ?_)
   ·intro c3 hc3
    refine swd9 hc3 (fun e4 => ?_) (fun e4 => ?_)
    ·intro c4 hc4
     refine swd9 hc4 (fun e8 => ?_) (fun e8 => ?_)
     ·refine nd_intro ⟨by omega, e8⟩ ?_
      rintro u rfl
      rw [hoffs ⟨eo, by omega, by omega⟩]
      intro _ m hm9 c9 hc9
      rw [bsOf_size] at hm9
      refine swn9 hc9 (fun hne => ?_) (fun heq => ?_)
      ·exact h1 2 (by simp only [if_neg (t6 (by omega))])
      have hlen : ws.length = ks.length := by omega
      have hk' := t5 hlen
      subst hk'
      have hlen' : ws.length = (ks.map fixK).length := by rw [List.length_map]; exact hlen
      simp only [if_pos hlen', ← goR_fix] at h1 h2
      refine loop_intro (A := A11 w0 ws ks) (⟨0, ⟨w0, [], 0, 0, []⟩⟩ : G10) ?_ ⟨rfl, Nat.zero_le _, Nat.le_refl _, Nat.le_refl _⟩ ?_
      ·simp (maxSteps:=9^9) only [I11, go_sem, Int.reduceLT, Int.reduceLE, Int.reduceEq, Int.reduceNe, Int.reduceAdd, Int.reduceSub, Int.reduceMul, Int.reduceToNat, Int.reduceNeg, Nat.reduceEqDiff, Nat.reduceLeDiff, Nat.reduceSub, Nat.reduceMul, Nat.reduceLT, Nat.reduceBEq, Nat.reduceAdd, Nat.reduceDiv, Nat.reduceMod]
       rfl
      rintro ⟨i, c⟩ ⟨g1, g2, g3, g4⟩
      change goR (ks.drop i) (ws.drop i) c = goR ks ws ⟨w0, [], 0, 0, []⟩ at g1
      change i ≤ ws.length at g2
      change c.keys.length ≤ i at g3
      change c.ints.length ≤ i at g4
      simp (maxSteps:=9^9) only [I11, go_sem, Int.reduceLT, Int.reduceLE, Int.reduceEq, Int.reduceNe, Int.reduceAdd, Int.reduceSub, Int.reduceMul, Int.reduceToNat, Int.reduceNeg, Nat.reduceEqDiff, Nat.reduceLeDiff, Nat.reduceSub, Nat.reduceMul, Nat.reduceLT, Nat.reduceBEq, Nat.reduceAdd, Nat.reduceDiv, Nat.reduceMod]
      intro cc hcc
      refine swd9 hcc (fun hlt => ?_) (fun hge => ?_)
      ·obtain ⟨k, kr, hki⟩ : ∃ k kr, ks.drop i = k :: kr := by
        cases hx : ks.drop i with
        | nil => have := congrArg List.length hx; simp at this; omega
        | cons a b => exact ⟨a, b, rfl⟩
       obtain ⟨x, xr, hwi⟩ : ∃ x xr, ws.drop i = x :: xr := by
        cases hx : ws.drop i with
        | nil => have := congrArg List.length hx; simp at this; omega
        | cons a b => exact ⟨a, b, rfl⟩
       have hkk : ks[i]? = some k := by rw [← List.head?_drop, hki]; rfl
       have hww : ws[i]? = some x := by rw [← List.head?_drop, hwi]; rfl
       refine nd_intro (by rw [bsOf_size]; omega) ?_
       intro m hm1 _ _ m2 hm2
       rw [w64 (by omega)] at hm2
       have ex : elt Ty.str (w0 :: ws) m2.toNat = x := elt_eq (by rw [show m2.toNat = i + 1 by omega]; simpa using hww)
       refine nd_intro (by omega) (nd_intro (by omega) ?_)
       rw [ex]
       have hxs : x.size ≤ s.size := words_size (by rw [hw0]; exact List.mem_cons_of_mem _ (List.mem_of_getElem? hww))
       refine use33 (by rw [hm1]; simp [bsOf, List.getD_eq_getElem?_getD, hkk]) (t4 k (List.mem_of_getElem? hkk)) ⟨by omega, by omega, by omega⟩ (fun hno c2 a b => ?_) (fun c' hso a b => ?_)
       ·simp (maxSteps:=9^9) only [cmdG, go_sem, Int.reduceLT, Int.reduceLE, Int.reduceEq, Int.reduceNe, Int.reduceAdd, Int.reduceSub, Int.reduceMul, Int.reduceToNat, Int.reduceNeg, Nat.reduceEqDiff, Nat.reduceLeDiff, Nat.reduceSub, Nat.reduceMul, Nat.reduceLT, Nat.reduceBEq, Nat.reduceAdd, Nat.reduceDiv, Nat.reduceMod]
        have hbad := h1 2 (by rw [← g1, hki, hwi, goR, hno])
        cases a <;> cases b <;> (simp (maxSteps:=9^9) only [go_sem, Int.reduceLT, Int.reduceLE, Int.reduceEq, Int.reduceNe, Int.reduceAdd, Int.reduceSub, Int.reduceMul, Int.reduceToNat, Int.reduceNeg, Nat.reduceEqDiff, Nat.reduceLeDiff, Nat.reduceSub, Nat.reduceMul, Nat.reduceLT, Nat.reduceBEq, Nat.reduceAdd, Nat.reduceDiv, Nat.reduceMod]; exact hbad)
       ·have hkr : ks.drop (i + 1) = kr := by rw [← List.tail_drop, hki]; rfl
        have hwr : ws.drop (i + 1) = xr := by rw [← List.tail_drop, hwi]; rfl
        obtain ⟨l1, l2⟩ := step_len hso
        simp (maxSteps:=9^9) only [cmdG, go_sem, Int.reduceLT, Int.reduceLE, Int.reduceEq, Int.reduceNe, Int.reduceAdd, Int.reduceSub, Int.reduceMul, Int.reduceToNat, Int.reduceNeg, Nat.reduceEqDiff, Nat.reduceLeDiff, Nat.reduceSub, Nat.reduceMul, Nat.reduceLT, Nat.reduceBEq, Nat.reduceAdd, Nat.reduceDiv, Nat.reduceMod]
        rintro _ _ m3 hm3
        rw [w64 (by omega)] at hm3
        subst hm3
        refine lpE_intro (A := A11 w0 ws ks) (⟨i + 1, c'⟩ : G10) ?_ ⟨by show goR (ks.drop (i + 1)) (ws.drop (i + 1)) c' = _; rw [hkr, hwr, ← g1, hki, hwi, goR, hso], by show i + 1 ≤ ws.length; omega, by show c'.keys.length ≤ i + 1; omega, by show c'.ints.length ≤ i + 1; omega⟩ (by show ws.length - (i + 1) < ws.length - i; omega)
        cases a <;> cases b <;> (simp (maxSteps:=9^9) only [I11, go_sem, Int.reduceLT, Int.reduceLE, Int.reduceEq, Int.reduceNe, Int.reduceAdd, Int.reduceSub, Int.reduceMul, Int.reduceToNat, Int.reduceNeg, Nat.reduceEqDiff, Nat.reduceLeDiff, Nat.reduceSub, Nat.reduceMul, Nat.reduceLT, Nat.reduceBEq, Nat.reduceAdd, Nat.reduceDiv, Nat.reduceMod]; rfl)
      ·have hi : i = ws.length := by omega
       subst hi
       rw [List.drop_length, hlen, List.drop_length] at g1
       exact h2 c (by rw [← g1]; rfl)
     ·rw [hnoff (fun e => e8 (by omega))]
      intro _ m hm9 c9 hc9
      rw [bsOf_size] at hm9
      refine swn9 hc9 (fun hne => ?_) (fun heq => ?_)
      ·exact h1 2 (by simp only [if_neg (t6 (by omega))])
      have hlen : ws.length = ks.length := by omega
      have hk' := t5 hlen
      subst hk'
      have hlen' : ws.length = (ks.map fixK).length := by rw [List.length_map]; exact hlen
      simp only [if_pos hlen', ← goR_fix] at h1 h2
      refine loop_intro (A := A11 w0 ws ks) (⟨0, ⟨w0, [], 0, 0, []⟩⟩ : G10) ?_ ⟨rfl, Nat.zero_le _, Nat.le_refl _, Nat.le_refl _⟩ ?_
      ·simp (maxSteps:=9^9) only [I11, go_sem, Int.reduceLT, Int.reduceLE, Int.reduceEq, Int.reduceNe, Int.reduceAdd, Int.reduceSub, Int.reduceMul, Int.reduceToNat, Int.reduceNeg, Nat.reduceEqDiff, Nat.reduceLeDiff, Nat.reduceSub, Nat.reduceMul, Nat.reduceLT, Nat.reduceBEq, Nat.reduceAdd, Nat.reduceDiv, Nat.reduceMod]
       rfl
      rintro ⟨i, c⟩ ⟨g1, g2, g3, g4⟩
      change goR (ks.drop i) (ws.drop i) c = goR ks ws ⟨w0, [], 0, 0, []⟩ at g1
      change i ≤ ws.length at g2
      change c.keys.length ≤ i at g3
      change c.ints.length ≤ i at g4
      simp (maxSteps:=9^9) only [I11, go_sem, Int.reduceLT, Int.reduceLE, Int.reduceEq, Int.reduceNe, Int.reduceAdd, Int.reduceSub, Int.reduceMul, Int.reduceToNat, Int.reduceNeg, Nat.reduceEqDiff, Nat.reduceLeDiff, Nat.reduceSub, Nat.reduceMul, Nat.reduceLT, Nat.reduceBEq, Nat.reduceAdd, Nat.reduceDiv, Nat.reduceMod]
      intro cc hcc
      refine swd9 hcc (fun hlt => ?_) (fun hge => ?_)
      ·obtain ⟨k, kr, hki⟩ : ∃ k kr, ks.drop i = k :: kr := by
        cases hx : ks.drop i with
        | nil => have := congrArg List.length hx; simp at this; omega
        | cons a b => exact ⟨a, b, rfl⟩
       obtain ⟨x, xr, hwi⟩ : ∃ x xr, ws.drop i = x :: xr := by
        cases hx : ws.drop i with
        | nil => have := congrArg List.length hx; simp at this; omega
        | cons a b => exact ⟨a, b, rfl⟩
       have hkk : ks[i]? = some k := by rw [← List.head?_drop, hki]; rfl
       have hww : ws[i]? = some x := by rw [← List.head?_drop, hwi]; rfl
       refine nd_intro (by rw [bsOf_size]; omega) ?_
       intro m hm1 _ _ m2 hm2
       rw [w64 (by omega)] at hm2
       have ex : elt Ty.str (w0 :: ws) m2.toNat = x := elt_eq (by rw [show m2.toNat = i + 1 by omega]; simpa using hww)
       refine nd_intro (by omega) (nd_intro (by omega) ?_)
       rw [ex]
       have hxs : x.size ≤ s.size := words_size (by rw [hw0]; exact List.mem_cons_of_mem _ (List.mem_of_getElem? hww))
       refine use33 (by rw [hm1]; simp [bsOf, List.getD_eq_getElem?_getD, hkk]) (t4 k (List.mem_of_getElem? hkk)) ⟨by omega, by omega, by omega⟩ (fun hno c2 a b => ?_) (fun c' hso a b => ?_)
       ·simp (maxSteps:=9^9) only [cmdG, go_sem, Int.reduceLT, Int.reduceLE, Int.reduceEq, Int.reduceNe, Int.reduceAdd, Int.reduceSub, Int.reduceMul, Int.reduceToNat, Int.reduceNeg, Nat.reduceEqDiff, Nat.reduceLeDiff, Nat.reduceSub, Nat.reduceMul, Nat.reduceLT, Nat.reduceBEq, Nat.reduceAdd, Nat.reduceDiv, Nat.reduceMod]
        have hbad := h1 2 (by rw [← g1, hki, hwi, goR, hno])
        cases a <;> cases b <;> (simp (maxSteps:=9^9) only [go_sem, Int.reduceLT, Int.reduceLE, Int.reduceEq, Int.reduceNe, Int.reduceAdd, Int.reduceSub, Int.reduceMul, Int.reduceToNat, Int.reduceNeg, Nat.reduceEqDiff, Nat.reduceLeDiff, Nat.reduceSub, Nat.reduceMul, Nat.reduceLT, Nat.reduceBEq, Nat.reduceAdd, Nat.reduceDiv, Nat.reduceMod]; exact hbad)
       ·have hkr : ks.drop (i + 1) = kr := by rw [← List.tail_drop, hki]; rfl
        have hwr : ws.drop (i + 1) = xr := by rw [← List.tail_drop, hwi]; rfl
        obtain ⟨l1, l2⟩ := step_len hso
        simp (maxSteps:=9^9) only [cmdG, go_sem, Int.reduceLT, Int.reduceLE, Int.reduceEq, Int.reduceNe, Int.reduceAdd, Int.reduceSub, Int.reduceMul, Int.reduceToNat, Int.reduceNeg, Nat.reduceEqDiff, Nat.reduceLeDiff, Nat.reduceSub, Nat.reduceMul, Nat.reduceLT, Nat.reduceBEq, Nat.reduceAdd, Nat.reduceDiv, Nat.reduceMod]
        rintro _ _ m3 hm3
        rw [w64 (by omega)] at hm3
        subst hm3
        refine lpE_intro (A := A11 w0 ws ks) (⟨i + 1, c'⟩ : G10) ?_ ⟨by show goR (ks.drop (i + 1)) (ws.drop (i + 1)) c' = _; rw [hkr, hwr, ← g1, hki, hwi, goR, hso], by show i + 1 ≤ ws.length; omega, by show c'.keys.length ≤ i + 1; omega, by show c'.ints.length ≤ i + 1; omega⟩ (by show ws.length - (i + 1) < ws.length - i; omega)
        cases a <;> cases b <;> (simp (maxSteps:=9^9) only [I11, go_sem, Int.reduceLT, Int.reduceLE, Int.reduceEq, Int.reduceNe, Int.reduceAdd, Int.reduceSub, Int.reduceMul, Int.reduceToNat, Int.reduceNeg, Nat.reduceEqDiff, Nat.reduceLeDiff, Nat.reduceSub, Nat.reduceMul, Nat.reduceLT, Nat.reduceBEq, Nat.reduceAdd, Nat.reduceDiv, Nat.reduceMod]; rfl)
      ·have hi : i = ws.length := by omega
       subst hi
       rw [List.drop_length, hlen, List.drop_length] at g1
       exact h2 c (by rw [← g1]; rfl)
    ·rw [hnoff (fun e => e4 (by omega))]
     intro _ m hm9 c9 hc9
     rw [bsOf_size] at hm9
     refine swn9 hc9 (fun hne => ?_) (fun heq => ?_)
     ·exact h1 2 (by simp only [if_neg (t6 (by omega))])
     have hlen : ws.length = ks.length := by omega
     have hk' := t5 hlen
     subst hk'
     have hlen' : ws.length = (ks.map fixK).length := by rw [List.length_map]; exact hlen
     simp only [if_pos hlen', ← goR_fix] at h1 h2
     refine loop_intro (A := A11 w0 ws ks) (⟨0, ⟨w0, [], 0, 0, []⟩⟩ : G10) ?_ ⟨rfl, Nat.zero_le _, Nat.le_refl _, Nat.le_refl _⟩ ?_
     ·simp (maxSteps:=9^9) only [I11, go_sem, Int.reduceLT, Int.reduceLE, Int.reduceEq, Int.reduceNe, Int.reduceAdd, Int.reduceSub, Int.reduceMul, Int.reduceToNat, Int.reduceNeg, Nat.reduceEqDiff, Nat.reduceLeDiff, Nat.reduceSub, Nat.reduceMul, Nat.reduceLT, Nat.reduceBEq, Nat.reduceAdd, Nat.reduceDiv, Nat.reduceMod]
      rfl
     rintro ⟨i, c⟩ ⟨g1, g2, g3, g4⟩
     change goR (ks.drop i) (ws.drop i) c = goR ks ws ⟨w0, [], 0, 0, []⟩ at g1
     change i ≤ ws.length at g2
     change c.keys.length ≤ i at g3
     change c.ints.length ≤ i at g4
     simp (maxSteps:=9^9) only [I11, go_sem, Int.reduceLT, Int.reduceLE, Int.reduceEq, Int.reduceNe, Int.reduceAdd, Int.reduceSub, Int.reduceMul, Int.reduceToNat, Int.reduceNeg, Nat.reduceEqDiff, Nat.reduceLeDiff, Nat.reduceSub, Nat.reduceMul, Nat.reduceLT, Nat.reduceBEq, Nat.reduceAdd, Nat.reduceDiv, Nat.reduceMod]
     intro cc hcc
     refine swd9 hcc (fun hlt => ?_) (fun hge => ?_)
     ·obtain ⟨k, kr, hki⟩ : ∃ k kr, ks.drop i = k :: kr := by
       cases hx : ks.drop i with
       | nil => have := congrArg List.length hx; simp at this; omega
       | cons a b => exact ⟨a, b, rfl⟩
      obtain ⟨x, xr, hwi⟩ : ∃ x xr, ws.drop i = x :: xr := by
       cases hx : ws.drop i with
       | nil => have := congrArg List.length hx; simp at this; omega
       | cons a b => exact ⟨a, b, rfl⟩
      have hkk : ks[i]? = some k := by rw [← List.head?_drop, hki]; rfl
      have hww : ws[i]? = some x := by rw [← List.head?_drop, hwi]; rfl
      refine nd_intro (by rw [bsOf_size]; omega) ?_
      intro m hm1 _ _ m2 hm2
      rw [w64 (by omega)] at hm2
      have ex : elt Ty.str (w0 :: ws) m2.toNat = x := elt_eq (by rw [show m2.toNat = i + 1 by omega]; simpa using hww)
      refine nd_intro (by omega) (nd_intro (by omega) ?_)
      rw [ex]
      have hxs : x.size ≤ s.size := words_size (by rw [hw0]; exact List.mem_cons_of_mem _ (List.mem_of_getElem? hww))
      refine use33 (by rw [hm1]; simp [bsOf, List.getD_eq_getElem?_getD, hkk]) (t4 k (List.mem_of_getElem? hkk)) ⟨by omega, by omega, by omega⟩ (fun hno c2 a b => ?_) (fun c' hso a b => ?_)
      ·simp (maxSteps:=9^9) only [cmdG, go_sem, Int.reduceLT, Int.reduceLE, Int.reduceEq, Int.reduceNe, Int.reduceAdd, Int.reduceSub, Int.reduceMul, Int.reduceToNat, Int.reduceNeg, Nat.reduceEqDiff, Nat.reduceLeDiff, Nat.reduceSub, Nat.reduceMul, Nat.reduceLT, Nat.reduceBEq, Nat.reduceAdd, Nat.reduceDiv, Nat.reduceMod]
       have hbad := h1 2 (by rw [← g1, hki, hwi, goR, hno])
       cases a <;> cases b <;> (simp (maxSteps:=9^9) only [go_sem, Int.reduceLT, Int.reduceLE, Int.reduceEq, Int.reduceNe, Int.reduceAdd, Int.reduceSub, Int.reduceMul, Int.reduceToNat, Int.reduceNeg, Nat.reduceEqDiff, Nat.reduceLeDiff, Nat.reduceSub, Nat.reduceMul, Nat.reduceLT, Nat.reduceBEq, Nat.reduceAdd, Nat.reduceDiv, Nat.reduceMod]; exact hbad)
      ·have hkr : ks.drop (i + 1) = kr := by rw [← List.tail_drop, hki]; rfl
       have hwr : ws.drop (i + 1) = xr := by rw [← List.tail_drop, hwi]; rfl
       obtain ⟨l1, l2⟩ := step_len hso
       simp (maxSteps:=9^9) only [cmdG, go_sem, Int.reduceLT, Int.reduceLE, Int.reduceEq, Int.reduceNe, Int.reduceAdd, Int.reduceSub, Int.reduceMul, Int.reduceToNat, Int.reduceNeg, Nat.reduceEqDiff, Nat.reduceLeDiff, Nat.reduceSub, Nat.reduceMul, Nat.reduceLT, Nat.reduceBEq, Nat.reduceAdd, Nat.reduceDiv, Nat.reduceMod]
       rintro _ _ m3 hm3
       rw [w64 (by omega)] at hm3
       subst hm3
       refine lpE_intro (A := A11 w0 ws ks) (⟨i + 1, c'⟩ : G10) ?_ ⟨by show goR (ks.drop (i + 1)) (ws.drop (i + 1)) c' = _; rw [hkr, hwr, ← g1, hki, hwi, goR, hso], by show i + 1 ≤ ws.length; omega, by show c'.keys.length ≤ i + 1; omega, by show c'.ints.length ≤ i + 1; omega⟩ (by show ws.length - (i + 1) < ws.length - i; omega)
       cases a <;> cases b <;> (simp (maxSteps:=9^9) only [I11, go_sem, Int.reduceLT, Int.reduceLE, Int.reduceEq, Int.reduceNe, Int.reduceAdd, Int.reduceSub, Int.reduceMul, Int.reduceToNat, Int.reduceNeg, Nat.reduceEqDiff, Nat.reduceLeDiff, Nat.reduceSub, Nat.reduceMul, Nat.reduceLT, Nat.reduceBEq, Nat.reduceAdd, Nat.reduceDiv, Nat.reduceMod]; rfl)
     ·have hi : i = ws.length := by omega
      subst hi
      rw [List.drop_length, hlen, List.drop_length] at g1
      exact h2 c (by rw [← g1]; rfl)
   ·rw [hnoff (fun e => eo e.1)]
    intro _ m hm9 c9 hc9
    rw [bsOf_size] at hm9
    refine swn9 hc9 (fun hne => ?_) (fun heq => ?_)
    ·exact h1 2 (by simp only [if_neg (t6 (by omega))])
    have hlen : ws.length = ks.length := by omega
    have hk' := t5 hlen
    subst hk'
    have hlen' : ws.length = (ks.map fixK).length := by rw [List.length_map]; exact hlen
    simp only [if_pos hlen', ← goR_fix] at h1 h2
    refine loop_intro (A := A11 w0 ws ks) (⟨0, ⟨w0, [], 0, 0, []⟩⟩ : G10) ?_ ⟨rfl, Nat.zero_le _, Nat.le_refl _, Nat.le_refl _⟩ ?_
    ·simp (maxSteps:=9^9) only [I11, go_sem, Int.reduceLT, Int.reduceLE, Int.reduceEq, Int.reduceNe, Int.reduceAdd, Int.reduceSub, Int.reduceMul, Int.reduceToNat, Int.reduceNeg, Nat.reduceEqDiff, Nat.reduceLeDiff, Nat.reduceSub, Nat.reduceMul, Nat.reduceLT, Nat.reduceBEq, Nat.reduceAdd, Nat.reduceDiv, Nat.reduceMod]
     rfl
    rintro ⟨i, c⟩ ⟨g1, g2, g3, g4⟩
    change goR (ks.drop i) (ws.drop i) c = goR ks ws ⟨w0, [], 0, 0, []⟩ at g1
    change i ≤ ws.length at g2
    change c.keys.length ≤ i at g3
    change c.ints.length ≤ i at g4
    simp (maxSteps:=9^9) only [I11, go_sem, Int.reduceLT, Int.reduceLE, Int.reduceEq, Int.reduceNe, Int.reduceAdd, Int.reduceSub, Int.reduceMul, Int.reduceToNat, Int.reduceNeg, Nat.reduceEqDiff, Nat.reduceLeDiff, Nat.reduceSub, Nat.reduceMul, Nat.reduceLT, Nat.reduceBEq, Nat.reduceAdd, Nat.reduceDiv, Nat.reduceMod]
    intro cc hcc
    refine swd9 hcc (fun hlt => ?_) (fun hge => ?_)
    ·obtain ⟨k, kr, hki⟩ : ∃ k kr, ks.drop i = k :: kr := by
      cases hx : ks.drop i with
      | nil => have := congrArg List.length hx; simp at this; omega
      | cons a b => exact ⟨a, b, rfl⟩
     obtain ⟨x, xr, hwi⟩ : ∃ x xr, ws.drop i = x :: xr := by
      cases hx : ws.drop i with
      | nil => have := congrArg List.length hx; simp at this; omega
      | cons a b => exact ⟨a, b, rfl⟩
     have hkk : ks[i]? = some k := by rw [← List.head?_drop, hki]; rfl
     have hww : ws[i]? = some x := by rw [← List.head?_drop, hwi]; rfl
     refine nd_intro (by rw [bsOf_size]; omega) ?_
     intro m hm1 _ _ m2 hm2
     rw [w64 (by omega)] at hm2
     have ex : elt Ty.str (w0 :: ws) m2.toNat = x := elt_eq (by rw [show m2.toNat = i + 1 by omega]; simpa using hww)
     refine nd_intro (by omega) (nd_intro (by omega) ?_)
     rw [ex]
     have hxs : x.size ≤ s.size := words_size (by rw [hw0]; exact List.mem_cons_of_mem _ (List.mem_of_getElem? hww))
     refine use33 (by rw [hm1]; simp [bsOf, List.getD_eq_getElem?_getD, hkk]) (t4 k (List.mem_of_getElem? hkk)) ⟨by omega, by omega, by omega⟩ (fun hno c2 a b => ?_) (fun c' hso a b => ?_)
     ·simp (maxSteps:=9^9) only [cmdG, go_sem, Int.reduceLT, Int.reduceLE, Int.reduceEq, Int.reduceNe, Int.reduceAdd, Int.reduceSub, Int.reduceMul, Int.reduceToNat, Int.reduceNeg, Nat.reduceEqDiff, Nat.reduceLeDiff, Nat.reduceSub, Nat.reduceMul, Nat.reduceLT, Nat.reduceBEq, Nat.reduceAdd, Nat.reduceDiv, Nat.reduceMod]
      have hbad := h1 2 (by rw [← g1, hki, hwi, goR, hno])
      cases a <;> cases b <;> (simp (maxSteps:=9^9) only [go_sem, Int.reduceLT, Int.reduceLE, Int.reduceEq, Int.reduceNe, Int.reduceAdd, Int.reduceSub, Int.reduceMul, Int.reduceToNat, Int.reduceNeg, Nat.reduceEqDiff, Nat.reduceLeDiff, Nat.reduceSub, Nat.reduceMul, Nat.reduceLT, Nat.reduceBEq, Nat.reduceAdd, Nat.reduceDiv, Nat.reduceMod]; exact hbad)
     ·have hkr : ks.drop (i + 1) = kr := by rw [← List.tail_drop, hki]; rfl
      have hwr : ws.drop (i + 1) = xr := by rw [← List.tail_drop, hwi]; rfl
      obtain ⟨l1, l2⟩ := step_len hso
      simp (maxSteps:=9^9) only [cmdG, go_sem, Int.reduceLT, Int.reduceLE, Int.reduceEq, Int.reduceNe, Int.reduceAdd, Int.reduceSub, Int.reduceMul, Int.reduceToNat, Int.reduceNeg, Nat.reduceEqDiff, Nat.reduceLeDiff, Nat.reduceSub, Nat.reduceMul, Nat.reduceLT, Nat.reduceBEq, Nat.reduceAdd, Nat.reduceDiv, Nat.reduceMod]
      rintro _ _ m3 hm3
      rw [w64 (by omega)] at hm3
      subst hm3
      refine lpE_intro (A := A11 w0 ws ks) (⟨i + 1, c'⟩ : G10) ?_ ⟨by show goR (ks.drop (i + 1)) (ws.drop (i + 1)) c' = _; rw [hkr, hwr, ← g1, hki, hwi, goR, hso], by show i + 1 ≤ ws.length; omega, by show c'.keys.length ≤ i + 1; omega, by show c'.ints.length ≤ i + 1; omega⟩ (by show ws.length - (i + 1) < ws.length - i; omega)
      cases a <;> cases b <;> (simp (maxSteps:=9^9) only [I11, go_sem, Int.reduceLT, Int.reduceLE, Int.reduceEq, Int.reduceNe, Int.reduceAdd, Int.reduceSub, Int.reduceMul, Int.reduceToNat, Int.reduceNeg, Nat.reduceEqDiff, Nat.reduceLeDiff, Nat.reduceSub, Nat.reduceMul, Nat.reduceLT, Nat.reduceBEq, Nat.reduceAdd, Nat.reduceDiv, Nat.reduceMod]; rfl)
    ·have hi : i = ws.length := by omega
     subst hi
     rw [List.drop_length, hlen, List.drop_length] at g1
     exact h2 c (by rw [← g1]; rfl)
 ·exact h.elim
end Go.V
