/- A part of the proof layer, or functions of the given program in it: contracts and their proofs. -/
import Derived.Test.YthfkoeoaehkoaaaGreatDoorMN4
import Derived.Test.YthfkoeoaehkoaaaGreatDoorMN1
import Derived.Shelf.RegionOpenPlain
import Derived.WalkKit
import Derived.Laws.Externs
import Derived.Laws.LoneSync
namespace Go.V
open Go.Proofs
set_option maxRecDepth 100000
set_option maxHeartbeats 8000000
set_option linter.unusedSimpArgs false
set_option linter.unnecessarySimpa false
set_option linter.unusedVariables false
attribute [local irreducible] rc
/-! ### shell.Print -/
structure G16 where
 j : Nat
 g : PS
def A16 (p q okb : Bool) (c : Cmd) : LoopAnn := {
 G := G16
 I := fun x => ⟨[(1, .ptr 0 0), (5, .bool okb), (6, .own 1), (7, .sl p 16 .str x.g.ks), (8, .sl q 8 (.int .i64) x.g.ns), (42, .own 2), (43, .int .i64 (prKinds c).length), (44, .int .i64 x.j)],
  [.struct [.str c.word, .sl p 16 .str c.keys, .int .u64 c.client, .int .u64 c.serial, .sl q 8 (.int .i64) c.ints], .row true 16 .str x.g.ws, .row true 1 .byte (prKinds c)]⟩
 R := fun _ x => x.j ≤ (prKinds c).length ∧ ((prKinds c).drop x.j).foldl (prStep c) x.g = (prKinds c).foldl (prStep c) ⟨[c.word], c.keys, c.ints⟩ ∧ x.g.ws ≠ [] ∧ x.g.ws.length ≤ 1 + x.j ∧ (joinB x.g.ws).size ≤ 1000 + 2001 * x.j ∧
  ((∀ k ∈ x.g.ks, k.size ≤ 1000) ∧ (∀ n ∈ x.g.ns, inR .i64 n) ∧ x.g.ks.length ≤ 101 ∧ x.g.ns.length ≤ 500)
 μ := fun x => (prKinds c).length - x.j }
theorem I16 (p q okb c) (x : G16) : (A16 p q okb c).I x = ⟨[(1, .ptr 0 0), (5, .bool okb), (6, .own 1), (7, .sl p 16 .str x.g.ks), (8, .sl q 8 (.int .i64) x.g.ns), (42, .own 2), (43, .int .i64 (prKinds c).length), (44, .int .i64 x.j)],
  [.struct [.str c.word, .sl p 16 .str c.keys, .int .u64 c.client, .int .u64 c.serial, .sl q 8 (.int .i64) c.ints], .row true 16 .str x.g.ws, .row true 1 .byte (prKinds c)]⟩ := rfl
section use
variable {K : SV → List SB → Prop}
theorem use27p {w : ByteArray} {n : Int} (hn : 0 ≤ n ∧ n ≤ 100000) (k : K (.tup [.str (bsOf ((kindsF w n.toNat).getD [])), .bool (kindsF w n.toNat).isSome]) []) : C27 [.str w, .int .i64 n] [] K := ⟨hn, k⟩
theorem use38 {n : Nat} (hs : (utoaB n).size ≤ maxLen) (k : K (.str (utoaB n)) []) : C38 [.int .u64 n, .int .i64 10] [] K := ⟨hs, k⟩
theorem use39 {n : Int} (hs : (itoaB n).size ≤ maxLen) (k : K (.str (itoaB n)) []) : C39 [.int .i64 n, .int .i64 10] [] K := ⟨hs, k⟩
theorem use40 {s : ByteArray} (hs : s.size ≤ 100000) (k : K (.str (hexW s)) []) : C40 [.str s] [] K := ⟨hs, k⟩
theorem use41 {ws : List ByteArray} {p : Bool} (h1 : ws ≠ []) (h2 : (joinB ws).size ≤ 1000000) (k : K (.str (joinB ws)) []) : C41 [.sl p 16 .str ws, .str ⟨#[32]⟩] [] K := ⟨rfl, h1, h2, k⟩
theorem use42 {p q : Bool} {xs ys : List ByteArray} (h : K (.bool (decide (xs = ys))) []) : C42 [.sl p 16 .str xs, .sl q 16 .str ys] [] K := h
theorem use43 {p q : Bool} {xs ys : List Int} (h : K (.bool (decide (xs = ys))) []) : C43 [.sl p 8 (.int .i64) xs, .sl q 8 (.int .i64) ys] [] K := h
end use
theorem prKinds_len (c : Cmd) : (prKinds c).length ≤ 8 := by
 unfold prKinds
 cases h : kindsF c.word (3 + c.ints.length) with
 | none => simp
 | some l => exact (shape_len _ _ _ h).1
attribute [local irreducible] C27 C38 C39 C40 C41 C42 C43 CParse
theorem s16 : Sound Tryz.prog 16 CPrint := by
 refine sound_of_okF ok16 (.cons s27 (callable_of_okF ok27) (.cons s38 ⟨_, Tryz.func38, rfl, by decide⟩ (.cons s39 ⟨_, Tryz.func39, rfl, by decide⟩ (.cons s40 (callable_of_okF ok40) (.cons s41 s41_c (.cons s42 (callable_of_okF ok42) (.cons s43 (callable_of_okF ok43) (.cons s10 (callable_of_okF ok10) .nil)))))))) ?_
 intro args hp K h
 unfold CPrint at h
 split at h
 ·rename_i w p ks cl se q ns
  obtain ⟨c, rfl, rfl, rfl, rfl, rfl, hc, h1, h2⟩ := h
  refine ⟨by simp, [(1, A16 p q (kindsF c.word (3 + c.ints.length)).isSome c)], ?_⟩
  have hmx := maxLen_val
  have hkl := hc.kl
  have hnl := hc.nl
  have hpl := prKinds_len c
  simp (maxSteps:=9^9) only [a16, r16, go_sem, eq_self, and_self, Int.natCast_pos, Int.le_refl, Nat.le_refl, Int.natCast_nonneg, Int.ofNat_lt, Int.ofNat_le, Int.reduceLT, Int.reduceLE, Int.reduceEq, Int.reduceNe, Int.reduceAdd, Int.reduceSub, Int.reduceMul, Int.reduceToNat, Int.reduceNeg, Nat.reduceEqDiff, Nat.reduceLeDiff, Nat.reduceSub, Nat.reduceMul, Nat.reduceLT, Nat.reduceBEq, Nat.reduceAdd, Nat.reduceDiv, Nat.reduceMod]
  rintro _ _ m rfl c1 hc1
  refine swd9 hc1 (fun e => absurd e (by omega)) (fun _ => ?_)
  rintro _ _ m rfl c2 hc2
  refine swd9 hc2 (fun e => absurd e (by omega)) (fun _ => ?_)
  rintro _ _ m rfl _ _ m1 hm1
  rw [w64 (by omega)] at hm1
  refine use27p (by omega) ?_
  have e1 : m1.toNat = 3 + c.ints.length := by omega
  rw [e1]
  have e2 : (kindsF c.word (3 + c.ints.length)).getD [] = prKinds c := rfl
  rw [e2]
  generalize hok : (kindsF c.word (3 + c.ints.length)).isSome = okb
  simp (maxSteps:=9^9) only [go_sem, eq_self, and_self, Int.natCast_pos, Int.le_refl, Nat.le_refl, Int.natCast_nonneg, Int.ofNat_lt, Int.ofNat_le, Int.reduceLT, Int.reduceLE, Int.reduceEq, Int.reduceNe, Int.reduceAdd, Int.reduceSub, Int.reduceMul, Int.reduceToNat, Int.reduceNeg, Nat.reduceEqDiff, Nat.reduceLeDiff, Nat.reduceSub, Nat.reduceMul, Nat.reduceLT, Nat.reduceBEq, Nat.reduceAdd, Nat.reduceDiv, Nat.reduceMod]
  rw [bs_list]
  refine ⟨by rw [bsOf_size]; omega, ?_⟩
  rintro _ _ m rfl
  refine loop_intro (A := A16 p q okb c) (⟨0, ⟨[c.word], c.keys, c.ints⟩⟩ : G16) ?_ ⟨Nat.zero_le _, rfl, by simp, by simp, by have := hc.w; show c.word.size ≤ 1000 + 2001 * 0; omega, hc.k, hc.n, hkl, hnl⟩ ?_
  ·simp (maxSteps:=9^9) only [I16, go_sem, eq_self, and_self, Int.natCast_pos, Int.le_refl, Nat.le_refl, Int.natCast_nonneg, Int.ofNat_lt, Int.ofNat_le, Int.reduceLT, Int.reduceLE, Int.reduceEq, Int.reduceNe, Int.reduceAdd, Int.reduceSub, Int.reduceMul, Int.reduceToNat, Int.reduceNeg, Nat.reduceEqDiff, Nat.reduceLeDiff, Nat.reduceSub, Nat.reduceMul, Nat.reduceLT, Nat.reduceBEq, Nat.reduceAdd, Nat.reduceDiv, Nat.reduceMod]
   rfl
  rintro ⟨j, ws, ks, ns⟩ hR
  obtain ⟨g1, g2, g3, g4, g5, g6, g7, g8, g9⟩ : j ≤ (prKinds c).length ∧ ((prKinds c).drop j).foldl (prStep c) ⟨ws, ks, ns⟩ = (prKinds c).foldl (prStep c) ⟨[c.word], c.keys, c.ints⟩ ∧ ws ≠ [] ∧ ws.length ≤ 1 + j ∧ (joinB ws).size ≤ 1000 + 2001 * j ∧
   ((∀ k ∈ ks, k.size ≤ 1000) ∧ (∀ n ∈ ns, inR .i64 n) ∧ ks.length ≤ 101 ∧ ns.length ≤ 500) := hR
  simp (maxSteps:=9^9) only [I16, go_sem, eq_self, and_self, Int.natCast_pos, Int.le_refl, Nat.le_refl, Int.natCast_nonneg, Int.ofNat_lt, Int.ofNat_le, Int.reduceLT, Int.reduceLE, Int.reduceEq, Int.reduceNe, Int.reduceAdd, Int.reduceSub, Int.reduceMul, Int.reduceToNat, Int.reduceNeg, Nat.reduceEqDiff, Nat.reduceLeDiff, Nat.reduceSub, Nat.reduceMul, Nat.reduceLT, Nat.reduceBEq, Nat.reduceAdd, Nat.reduceDiv, Nat.reduceMod]
  intro c45 hc45
  refine swd9 hc45 (fun hj => ?_) (fun hj => ?_)
  ·have hj' : j < (prKinds c).length := by omega
   refine nd_intro hj' ?_
   rw [show (prKinds c).drop j = elt .byte (prKinds c) j :: (prKinds c).drop (j + 1) from drop_elt (t := .byte) hj', List.foldl_cons] at g2
   generalize (elt .byte (prKinds c) j : UInt8) = k at g2
   have keq : ∀ n : UInt8, (k.toNat : Int) = n.toNat → k = n := fun n e => UInt8.toNat_inj.1 (by omega)
   have hmu : ∀ x : PS, (A16 p q okb c).μ (⟨j + 1, x⟩ : G16) < (A16 p q okb c).μ (⟨j, ⟨ws, ks, ns⟩⟩ : G16) := fun x => by
    show (prKinds c).length - (j + 1) < (prKinds c).length - j
    omega
   have back : ∀ x : PS, prStep c ⟨ws, ks, ns⟩ k = x → x.ws ≠ [] → x.ws.length ≤ 1 + (j + 1) → (joinB x.ws).size ≤ 1000 + 2001 * (j + 1) → ((∀ k ∈ x.ks, k.size ≤ 1000) ∧ (∀ n ∈ x.ns, inR .i64 n) ∧ x.ks.length ≤ 101 ∧ x.ns.length ≤ 500) →
     (A16 p q okb c).R (⟨0, ⟨[c.word], c.keys, c.ints⟩⟩ : G16) (⟨j + 1, x⟩ : G16) := fun x e a b d f => ⟨hj', by rw [← e]; exact g2, a, b, d, f⟩
   have one : ∀ (x : ByteArray) (ks' : List ByteArray) (ns' : List Int), x.size ≤ 2000 → prStep c ⟨ws, ks, ns⟩ k = ⟨ws ++ [x], ks', ns'⟩ → ((∀ k ∈ ks', k.size ≤ 1000) ∧ (∀ n ∈ ns', inR .i64 n) ∧ ks'.length ≤ 101 ∧ ns'.length ≤ 500) →
     (A16 p q okb c).R (⟨0, ⟨[c.word], c.keys, c.ints⟩⟩ : G16) (⟨j + 1, ⟨ws ++ [x], ks', ns'⟩⟩ : G16) := fun x ks' ns' hx e f =>
    back _ e (by simp) (by rw [List.length_append]; show ws.length + 1 ≤ _; omega) (by show (joinB (ws ++ [x])).size ≤ _; rw [joinB_snoc g3]; have := addW_le g5 hx; omega) f
   intro c99 hc99
   refine swd9 hc99 (fun e => ?_) (fun n99 => ?_)
   ·have k9 := keq 99 e
    subst k9
    have hz := utoaB_size hc.cl
    refine use38 (by omega) ?_
    simp (maxSteps:=9^9) only [go_sem, eq_self, and_self, Int.natCast_pos, Int.le_refl, Nat.le_refl, Int.natCast_nonneg, Int.ofNat_lt, Int.ofNat_le, Int.reduceLT, Int.reduceLE, Int.reduceEq, Int.reduceNe, Int.reduceAdd, Int.reduceSub, Int.reduceMul, Int.reduceToNat, Int.reduceNeg, Nat.reduceEqDiff, Nat.reduceLeDiff, Nat.reduceSub, Nat.reduceMul, Nat.reduceLT, Nat.reduceBEq, Nat.reduceAdd, Nat.reduceDiv, Nat.reduceMod]
    refine ⟨fun _ => by omega, fun _ _ _ m5 hm5 => ?_⟩
    rw [w64 (by omega)] at hm5
    rw [hm5, show (j : Int) + 1 = ((j + 1 : Nat) : Int) by omega]
    exact lpE_intro (A := A16 p q okb c) (⟨j + 1, ⟨ws ++ [utoaB c.client], ks, ns⟩⟩ : G16) rfl (one _ _ _ (by omega) (by simp [prStep]) ⟨g6, g7, g8, g9⟩) (hmu _)
   intro c115 hc115
   refine swd9 hc115 (fun e => ?_) (fun n115 => ?_)
   ·have k9 := keq 115 e
    subst k9
    have hz := utoaB_size hc.se
    refine use38 (by omega) ?_
    simp (maxSteps:=9^9) only [go_sem, eq_self, and_self, Int.natCast_pos, Int.le_refl, Nat.le_refl, Int.natCast_nonneg, Int.ofNat_lt, Int.ofNat_le, Int.reduceLT, Int.reduceLE, Int.reduceEq, Int.reduceNe, Int.reduceAdd, Int.reduceSub, Int.reduceMul, Int.reduceToNat, Int.reduceNeg, Nat.reduceEqDiff, Nat.reduceLeDiff, Nat.reduceSub, Nat.reduceMul, Nat.reduceLT, Nat.reduceBEq, Nat.reduceAdd, Nat.reduceDiv, Nat.reduceMod]
    refine ⟨fun _ => by omega, fun _ _ _ m5 hm5 => ?_⟩
    rw [w64 (by omega)] at hm5
    rw [hm5, show (j : Int) + 1 = ((j + 1 : Nat) : Int) by omega]
    exact lpE_intro (A := A16 p q okb c) (⟨j + 1, ⟨ws ++ [utoaB c.serial], ks, ns⟩⟩ : G16) rfl (one _ _ _ (by omega) (by simp [prStep]) ⟨g6, g7, g8, g9⟩) (hmu _)
   intro c105 hc105
   refine swd9 hc105 (fun e => ?_) (fun n105 => ?_)
   ·have k9 := keq 105 e
    subst k9
    rintro _ _ m rfl c6 hc6
    refine swd9 hc6 (fun h6 => ?_) (fun h6 => ?_)
    ·obtain ⟨n0, nr, rfl⟩ : ∃ n0 nr, ns = n0 :: nr := by
      cases ns with
      | nil => simp at h6
      | cons a b => exact ⟨a, b, rfl⟩
     have hz := itoaB_size (g7 n0 (List.mem_cons_self ..))
     refine nd_intro (by simp) (nd_intro (by simp; omega) ?_)
     intro ys hys
     have hys' : ys = nr := by rw [hys]; simp
     subst hys'
     refine use39 (by have : (itoaB n0).size ≤ 20 := hz; show (itoaB n0).size ≤ maxLen; omega) ?_
     simp (maxSteps:=9^9) only [go_sem, eq_self, and_self, Int.natCast_pos, Int.le_refl, Nat.le_refl, Int.natCast_nonneg, Int.ofNat_lt, Int.ofNat_le, Int.reduceLT, Int.reduceLE, Int.reduceEq, Int.reduceNe, Int.reduceAdd, Int.reduceSub, Int.reduceMul, Int.reduceToNat, Int.reduceNeg, Nat.reduceEqDiff, Nat.reduceLeDiff, Nat.reduceSub, Nat.reduceMul, Nat.reduceLT, Nat.reduceBEq, Nat.reduceAdd, Nat.reduceDiv, Nat.reduceMod]
     have pend : nd ((1 : Int) ≤ ((ys.length + 1 : Nat) : Int)) (∀ y : List Int, y = List.take (ys.length + 1 - 1) ys → SV.sl q 8 (.int .i64) ys = SV.sl q 8 (.int .i64) y) := nd_intro (by omega) (fun y hy => by rw [hy]; simp)
     refine ⟨pend, pend, fun _ => by omega, fun _ => ⟨pend, pend, fun _ _ m5 hm5 => ?_⟩⟩
     rw [w64 (by omega)] at hm5
     rw [hm5, show (j : Int) + 1 = ((j + 1 : Nat) : Int) by omega]
     exact lpE_intro (A := A16 p q okb c) (⟨j + 1, ⟨ws ++ [itoaB n0], ks, ys⟩⟩ : G16) rfl (one _ _ _ (by have : (itoaB n0).size ≤ 20 := hz; omega) (by simp [prStep]) ⟨g6, fun n hn => g7 n (List.mem_cons_of_mem _ hn), g8, by simp only [List.length_cons] at g9; omega⟩) (hmu _)
    ·have hn : ns = [] := by
      cases ns with
      | nil => rfl
      | cons a b => simp at h6
     subst hn
     intro c7 hc7
     refine swn hc7 (fun e => absurd rfl e) (fun _ => ?_)
     intro _ _ m5 hm5
     rw [w64 (by omega)] at hm5
     rw [hm5, show (j : Int) + 1 = ((j + 1 : Nat) : Int) by omega]
     exact lpE_intro (A := A16 p q okb c) (⟨j + 1, ⟨ws, ks, []⟩⟩ : G16) rfl (back _ (by simp [prStep]) g3 (by show ws.length ≤ _; omega) (by show (joinB ws).size ≤ _; omega) ⟨g6, g7, g8, g9⟩) (hmu _)
   ·have q1 : ¬ k = 99 := fun e => n99 (by rw [e]; rfl)
    have q2 : ¬ k = 115 := fun e => n115 (by rw [e]; rfl)
    have q3 : ¬ k = 105 := fun e => n105 (by rw [e]; rfl)
    intro c7 hc7
    refine swn hc7 (fun _ => ?_) (fun e => absurd e n105)
    rintro _ _ m rfl c6 hc6
    refine swd9 hc6 (fun h6 => ?_) (fun h6 => ?_)
    ·obtain ⟨k0, kr, rfl⟩ : ∃ k0 kr, ks = k0 :: kr := by
      cases ks with
      | nil => simp at h6
      | cons a b => exact ⟨a, b, rfl⟩
     have hk0 := g6 k0 (List.mem_cons_self ..)
     have hz := hexW_size hk0
     refine nd_intro (by simp) (nd_intro (by simp; omega) ?_)
     intro ys hys
     have hys' : ys = kr := by rw [hys]; simp
     subst hys'
     refine use40 (by show ByteArray.size k0 ≤ 100000; omega) ?_
     simp (maxSteps:=9^9) only [go_sem, eq_self, and_self, Int.natCast_pos, Int.le_refl, Nat.le_refl, Int.natCast_nonneg, Int.ofNat_lt, Int.ofNat_le, Int.reduceLT, Int.reduceLE, Int.reduceEq, Int.reduceNe, Int.reduceAdd, Int.reduceSub, Int.reduceMul, Int.reduceToNat, Int.reduceNeg, Nat.reduceEqDiff, Nat.reduceLeDiff, Nat.reduceSub, Nat.reduceMul, Nat.reduceLT, Nat.reduceBEq, Nat.reduceAdd, Nat.reduceDiv, Nat.reduceMod]
     have pend : nd ((1 : Int) ≤ ((ys.length + 1 : Nat) : Int)) (∀ y : List ByteArray, y = List.take (ys.length + 1 - 1) ys → SV.sl p 16 .str ys = SV.sl p 16 .str y) := nd_intro (by omega) (fun y hy => by rw [hy]; simp)
     refine ⟨pend, pend, fun _ => by omega, fun _ => ⟨pend, pend, fun _ _ m5 hm5 => ?_⟩⟩
     rw [w64 (by omega)] at hm5
     rw [hm5, show (j : Int) + 1 = ((j + 1 : Nat) : Int) by omega]
     exact lpE_intro (A := A16 p q okb c) (⟨j + 1, ⟨ws ++ [hexW k0], ys, ns⟩⟩ : G16) rfl (one _ _ _ hz (by simp [prStep, q1, q2, q3]) ⟨fun x hx => g6 x (List.mem_cons_of_mem _ hx), g7, by simp only [List.length_cons] at g8; omega, g9⟩) (hmu _)
    ·have hn : ks = [] := by
      cases ks with
      | nil => rfl
      | cons a b => simp at h6
     subst hn
     intro _ _ m5 hm5
     rw [w64 (by omega)] at hm5
     rw [hm5, show (j : Int) + 1 = ((j + 1 : Nat) : Int) by omega]
     exact lpE_intro (A := A16 p q okb c) (⟨j + 1, ⟨ws, [], ns⟩⟩ : G16) rfl (back _ (by simp [prStep, q1, q2, q3]) g3 (by show ws.length ≤ _; omega) (by show (joinB ws).size ≤ _; omega) ⟨g6, g7, g8, g9⟩) (hmu _)
  ·have hn : j = (prKinds c).length := by omega
   have ew : ws = prWords c := by
    rw [hn, List.drop_length] at g2
    unfold prWords
    rw [← g2]
    rfl
   have et : joinB ws = prText c := by rw [ew]; rfl
   refine ⟨rfl, use41 g3 (by omega) ?_⟩
   rw [et] at g5 ⊢
   simp (maxSteps:=9^9) only [go_sem, eq_self, and_self, Int.natCast_pos, Int.le_refl, Nat.le_refl, Int.natCast_nonneg, Int.ofNat_lt, Int.ofNat_le, Int.reduceLT, Int.reduceLE, Int.reduceEq, Int.reduceNe, Int.reduceAdd, Int.reduceSub, Int.reduceMul, Int.reduceToNat, Int.reduceNeg, Nat.reduceEqDiff, Nat.reduceLeDiff, Nat.reduceSub, Nat.reduceMul, Nat.reduceLT, Nat.reduceBEq, Nat.reduceAdd, Nat.reduceDiv, Nat.reduceMod]
   refine usePp (by omega) (fun e he => ?_) (fun d hd => ?_)
   ·have hnone := print_none (c := c) (by rw [he]; simp)
    have h3 := h1 hnone
    rcases errPp he with rfl | rfl
    ·simp (maxSteps:=9^9) only [zeroC, go_sem, eq_self, and_self, Int.natCast_pos, Int.le_refl, Nat.le_refl, Int.natCast_nonneg, Int.ofNat_lt, Int.ofNat_le, Int.reduceLT, Int.reduceLE, Int.reduceEq, Int.reduceNe, Int.reduceAdd, Int.reduceSub, Int.reduceMul, Int.reduceToNat, Int.reduceNeg, Nat.reduceEqDiff, Nat.reduceLeDiff, Nat.reduceSub, Nat.reduceMul, Nat.reduceLT, Nat.reduceBEq, Nat.reduceAdd, Nat.reduceDiv, Nat.reduceMod]
     exact sw_intro (fun _ => h3) (fun _ => h3)
    ·simp (maxSteps:=9^9) only [zeroC, go_sem, eq_self, and_self, Int.natCast_pos, Int.le_refl, Nat.le_refl, Int.natCast_nonneg, Int.ofNat_lt, Int.ofNat_le, Int.reduceLT, Int.reduceLE, Int.reduceEq, Int.reduceNe, Int.reduceAdd, Int.reduceSub, Int.reduceMul, Int.reduceToNat, Int.reduceNeg, Nat.reduceEqDiff, Nat.reduceLeDiff, Nat.reduceSub, Nat.reduceMul, Nat.reduceLT, Nat.reduceBEq, Nat.reduceAdd, Nat.reduceDiv, Nat.reduceMod]
     exact sw_intro (fun _ => h3) (fun _ => h3)
   ·have hne : ¬ d = c → K (.tup [.str ByteArray.empty, .int .i64 1]) [] := fun e => h1 (print_none (by rw [hd]; intro e'; exact e (Except.ok.inj e')))
    simp (maxSteps:=9^9) only [cmdV, go_sem, eq_self, and_self, Int.natCast_pos, Int.le_refl, Nat.le_refl, Int.natCast_nonneg, Int.ofNat_lt, Int.ofNat_le, Int.reduceLT, Int.reduceLE, Int.reduceEq, Int.reduceNe, Int.reduceAdd, Int.reduceSub, Int.reduceMul, Int.reduceToNat, Int.reduceNeg, Nat.reduceEqDiff, Nat.reduceLeDiff, Nat.reduceSub, Nat.reduceMul, Nat.reduceLT, Nat.reduceBEq, Nat.reduceAdd, Nat.reduceDiv, Nat.reduceMod]
    refine sw_intro (fun ho => ?_) (fun ho => ?_)
    ·intro c3 hc3
     refine swn hc3 (fun e => hne (fun e' => e (by rw [e']))) (fun e1 => ?_)
     intro c4 hc4
     refine swn hc4 (fun e => hne (fun e' => e (by rw [e']))) (fun e2 => ?_)
     intro c5 hc5
     refine swn hc5 (fun e => hne (fun e' => e (by rw [e']))) (fun e3 => ?_)
     refine use42 ?_
     by_cases e4 : (d.keys : List ByteArray) = c.keys
     ·rw [decide_eq_true e4]
      simp (maxSteps:=9^9) only [go_sem, eq_self, and_self, Int.natCast_pos, Int.le_refl, Nat.le_refl, Int.natCast_nonneg, Int.ofNat_lt, Int.ofNat_le, Int.reduceLT, Int.reduceLE, Int.reduceEq, Int.reduceNe, Int.reduceAdd, Int.reduceSub, Int.reduceMul, Int.reduceToNat, Int.reduceNeg, Nat.reduceEqDiff, Nat.reduceLeDiff, Nat.reduceSub, Nat.reduceMul, Nat.reduceLT, Nat.reduceBEq, Nat.reduceAdd, Nat.reduceDiv, Nat.reduceMod]
      refine use43 ?_
      by_cases e5 : (d.ints : List Int) = c.ints
      ·rw [decide_eq_true e5]
       simp (maxSteps:=9^9) only [go_sem, eq_self, and_self, Int.natCast_pos, Int.le_refl, Nat.le_refl, Int.natCast_nonneg, Int.ofNat_lt, Int.ofNat_le, Int.reduceLT, Int.reduceLE, Int.reduceEq, Int.reduceNe, Int.reduceAdd, Int.reduceSub, Int.reduceMul, Int.reduceToNat, Int.reduceNeg, Nat.reduceEqDiff, Nat.reduceLeDiff, Nat.reduceSub, Nat.reduceMul, Nat.reduceLT, Nat.reduceBEq, Nat.reduceAdd, Nat.reduceDiv, Nat.reduceMod]
       have hdc : d = c := of_decide_eq_true ((cmd_eq d c).symm.trans (decide_eq_true ⟨e1, e2, e3, e4, e5⟩))
       exact h2 _ ((print_iff c _).2 ⟨rfl, by rw [hd, hdc]⟩)
      ·rw [decide_eq_false e5]
       simp (maxSteps:=9^9) only [go_sem, eq_self, and_self, Int.natCast_pos, Int.le_refl, Nat.le_refl, Int.natCast_nonneg, Int.ofNat_lt, Int.ofNat_le, Int.reduceLT, Int.reduceLE, Int.reduceEq, Int.reduceNe, Int.reduceAdd, Int.reduceSub, Int.reduceMul, Int.reduceToNat, Int.reduceNeg, Nat.reduceEqDiff, Nat.reduceLeDiff, Nat.reduceSub, Nat.reduceMul, Nat.reduceLT, Nat.reduceBEq, Nat.reduceAdd, Nat.reduceDiv, Nat.reduceMod]
       exact hne (fun e' => e5 (by rw [e']))
     ·rw [decide_eq_false e4]
      simp (maxSteps:=9^9) only [go_sem, eq_self, and_self, Int.natCast_pos, Int.le_refl, Nat.le_refl, Int.natCast_nonneg, Int.ofNat_lt, Int.ofNat_le, Int.reduceLT, Int.reduceLE, Int.reduceEq, Int.reduceNe, Int.reduceAdd, Int.reduceSub, Int.reduceMul, Int.reduceToNat, Int.reduceNeg, Nat.reduceEqDiff, Nat.reduceLeDiff, Nat.reduceSub, Nat.reduceMul, Nat.reduceLT, Nat.reduceBEq, Nat.reduceAdd, Nat.reduceDiv, Nat.reduceMod]
      exact hne (fun e' => e4 (by rw [e']))
    ·refine h1 (print_none (fun hp => ?_))
     obtain ⟨n, hn⟩ := (print_same c).2.2 ⟨_, hp⟩
     have := kinds_all hn (3 + c.ints.length)
     rw [hok, ho] at this
     cases this
 ·exact h.elim
end Go.V
namespace Go.Proofs
set_option linter.unusedSimpArgs false
set_option linter.unnecessarySimpa false
open Go.Shelf Go.RowKit
set_option linter.unusedVariables false
set_option maxHeartbeats 1000000
set_option maxRecDepth 100000
theorem add243 (b off : Nat) (x n : Int) (w : World) (hc : w.cell? ⟨b, off, none⟩ = some (.int .u64 x)) (hz : w.frozen? ⟨b, off, none⟩ = false) :
  Calls Tryz.prog 243 #[.pointer (some ⟨b, off, none⟩), .int .u64 n] w fun e w' => e = .returned (.int .u64 (IntKind.u64.wrap (x + n))) ∧ w' = w.setCell ⟨b, off, none⟩ (.int .u64 (IntKind.u64.wrap (x + n))) := by
 have hadd := run_call_add (P := Tryz.prog) Tryz.func298 (by kernel_rfl) (by kernel_rfl) (by kernel_rfl) .u64 (by kernel_rfl) hc hz (y := n) (s := IntKind.u64.wrap (x + n)) (by simp [Op.intArith])
 go_enter Tryz.func243, Tryz.ntmps243
 go_wp2
 go_ret
 exact ⟨rfl, rfl⟩
theorem at242 (b : Nat) (w : World) : Calls Tryz.prog 242 #[.pointer (some ⟨b, 0, none⟩), .int .i64 0] w fun e w' => e = .returned (.pointer (some ⟨b, 0, none⟩)) ∧ w' = w := by
 go_enter Tryz.func242, Tryz.ntmps242
 go_wp2
 go_ret
 exact ⟨rfl, rfl⟩
theorem add161 (b : Nat) (x n : Int) (w : World) (hc : w.cell? ⟨b, 0, none⟩ = some (.int .u64 x)) (hz : w.frozen? ⟨b, 0, none⟩ = false) :
  Calls Tryz.prog 161 #[.pointer (some ⟨b, 0, none⟩), .int .i64 0, .int .u64 n] w fun e w' => e = .returned (.int .u64 (IntKind.u64.wrap (x + n))) ∧ w' = w.setCell ⟨b, 0, none⟩ (.int .u64 (IntKind.u64.wrap (x + n))) := by
 have h1 := at242 b w
 have h2 := add243 b 0 x n w hc hz
 go_enter Tryz.func161, Tryz.ntmps161
 go_wp2_with (first | (go_at_call 242; refine h1.mono ?_; rintro e w' ⟨rfl, rfl⟩) | (go_at_call 243; refine h2.mono ?_; rintro e w' ⟨rfl, rfl⟩))
 go_ret
 exact ⟨rfl, rfl⟩
end Go.Proofs
