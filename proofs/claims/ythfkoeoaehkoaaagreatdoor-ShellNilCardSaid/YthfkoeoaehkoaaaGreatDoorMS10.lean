/- A part of the proof layer, or functions of the given program in it: contracts and their proofs. -/
import Derived.Test.YthfkoeoaehkoaaaGreatDoorMB9
import Derived.Test.YthfkoeoaehkoaaaGreatDoorMN1
import Derived.Shelf.RegionOpenPlain
import Derived.WalkKit
import Derived.Laws.Externs
import Derived.Laws.LoneSync
namespace Go.V
set_option linter.unusedSimpArgs false
set_option linter.unnecessarySimpa false
set_option linter.unusedVariables false
def offerW : ByteArray := ⟨#[111, 102, 102, 101, 114]⟩
def fixK (k : UInt8) : UInt8 := if k = 97 then 105 else k
theorem stepR_fix (k : UInt8) (s : ByteArray) (c : Cmd) : stepR k s c = stepC (fixK k) s c := by
 unfold stepR fixK
 split <;> rfl
def goR : List UInt8 → List ByteArray → Cmd → Option Cmd
 | k :: ks, w :: ws, c => match stepR k w c with
  | some c' => goR ks ws c'
  | none => none
 | _, _, c => some c
theorem goR_fix : ∀ (ks : List UInt8) (ws : List ByteArray) (c : Cmd), goR ks ws c = goC (ks.map fixK) ws c
 | [], ws, c => by cases ws <;> rfl
 | k :: ks, [], c => rfl
 | k :: ks, w :: ws, c => by
  rw [goR, List.map_cons, goC, stepR_fix]
  cases stepC (fixK k) w c with
  | none => rfl
  | some c' => exact goR_fix ks ws c'
def kindsR (w : ByteArray) (n : Nat) : ByteArray := if w = offerW ∧ 4 ≤ n ∧ n ≤ 8 then bsOf (([99, 115, 107, 105, 97, 97, 97, 97] : List UInt8).take n) else shapeR w
def Tie (w : ByteArray) (n : Nat) : Prop := ∃ ks ks', kindsR w n = bsOf ks ∧ kindsF w n = some ks' ∧ ¬ shapeR w = ⟨#[63]⟩ ∧ (∀ k ∈ ks, kindR k) ∧ (n = ks.length → ks' = ks.map fixK) ∧ (n ≠ ks.length → n ≠ ks'.length)
theorem tie_of {w : ByteArray} {n : Nat} {l : List UInt8} (hw : ¬ w = offerW) (h1 : shapeR w = bsOf l) (h2 : kindsF w n = some l) (h3 : ¬ bsOf l = ⟨#[63]⟩) (h4 : ∀ k ∈ l, kindR k) (h5 : l.map fixK = l) : Tie w n :=
 ⟨l, l, by unfold kindsR; rw [if_neg (fun e => hw e.1), h1], h2, by rw [h1]; exact h3, h4, fun _ => h5.symm, fun e => e⟩
theorem tie_offer (n : Nat) : Tie offerW n := by
 have hF : kindsF offerW n = some ([99, 115, 107, 105] ++ List.replicate (min (n - 4) 4) 105) := by unfold kindsF; exact if_pos rfl
 have hS : shapeR offerW = bsOf [99, 115, 107, 105, 97, 97, 97, 97] := by unfold shapeR; exact (if_pos rfl).trans rfl
 by_cases h : 4 ≤ n ∧ n ≤ 8
 ·refine ⟨([99, 115, 107, 105, 97, 97, 97, 97] : List UInt8).take n, _, by unfold kindsR; rw [if_pos ⟨rfl, h⟩], hF, by rw [hS]; decide, fun k hk => ?_, fun _ => ?_, fun e => absurd (by rw [List.length_take]; simp; omega) e⟩
  ·have := List.mem_of_mem_take hk
   simp at this
   unfold kindR
   rcases this with e | e | e | e | e <;> simp [e]
  ·rcases (by omega : n = 4 ∨ n = 5 ∨ n = 6 ∨ n = 7 ∨ n = 8) with rfl | rfl | rfl | rfl | rfl <;> decide
 ·refine ⟨[99, 115, 107, 105, 97, 97, 97, 97], _, by unfold kindsR; rw [if_neg (fun e => h e.2), hS], hF, by rw [hS]; decide, fun k hk => ?_, fun e => ?_, fun e => ?_⟩
  ·simp at hk
   unfold kindR
   rcases hk with e | e | e | e | e <;> simp [e]
  ·exact absurd (by simp at e; omega) h
  ·rw [List.length_append, List.length_replicate]
   simp at e ⊢
   omega
instance (k : UInt8) : Decidable (kindR k) := by unfold kindR; infer_instance
theorem kinds_tie (w : ByteArray) (n : Nat) : (shapeR w = ⟨#[63]⟩ ∧ kindsF w n = none) ∨ Tie w n := by
 by_cases n1 : w = offerW
 ·subst n1
  exact .inr (tie_offer n)
 have n0 : ¬ w = ⟨#[111, 102, 102, 101, 114]⟩ := n1
 rcases Classical.em (w = ⟨#[116, 105, 99, 107]⟩) with e | n2
 ·exact .inr (tie_of n1 (l := [105]) (by unfold shapeR; rw [if_neg n0, if_pos e]; rfl) (by unfold kindsF; rw [if_neg n0, if_pos e]) (by decide) (by decide) (by decide))
 rcases Classical.em (w = ⟨#[112, 105, 99, 107]⟩ ∨ w = ⟨#[114, 101, 108, 97, 121]⟩ ∨ w = ⟨#[112, 97, 114, 100, 111, 110]⟩ ∨ w = ⟨#[115, 116, 97, 116, 101]⟩ ∨ w = ⟨#[109, 97, 105, 108]⟩) with e | n3
 ·exact .inr (tie_of n1 (l := [107]) (by unfold shapeR; rw [if_neg n0, if_neg n2, if_pos e]; rfl) (by unfold kindsF; rw [if_neg n0, if_neg n2, if_pos e]) (by decide) (by decide) (by decide))
 rcases Classical.em (w = ⟨#[114, 101, 109, 105, 110, 100]⟩) with e | n4
 ·exact .inr (tie_of n1 (l := [107, 110, 105, 105, 105]) (by unfold shapeR; rw [if_neg n0, if_neg n2, if_neg n3, if_pos e]; rfl) (by unfold kindsF; rw [if_neg n0, if_neg n2, if_neg n3, if_pos e]) (by decide) (by decide) (by decide))
 rcases Classical.em (w = ⟨#[99, 97, 110, 99, 101, 108]⟩) with e | n5
 ·exact .inr (tie_of n1 (l := [107, 110]) (by unfold shapeR; rw [if_neg n0, if_neg n2, if_neg n3, if_neg n4, if_pos e]; rfl) (by unfold kindsF; rw [if_neg n0, if_neg n2, if_neg n3, if_neg n4, if_pos e]) (by decide) (by decide) (by decide))
 rcases Classical.em (w = ⟨#[115, 101, 114, 118, 101]⟩ ∨ w = ⟨#[99, 104, 101, 99, 107, 112, 111, 105, 110, 116]⟩ ∨ w = ⟨#[107, 101, 121, 115]⟩ ∨ w = ⟨#[99, 108, 111, 99, 107]⟩) with e | n6
 ·exact .inr (tie_of n1 (l := []) (by unfold shapeR; rw [if_neg n0, if_neg n2, if_neg n3, if_neg n4, if_neg n5, if_pos e]; rfl) (by unfold kindsF; rw [if_neg n0, if_neg n2, if_neg n3, if_neg n4, if_neg n5, if_pos e]) (by decide) (by decide) (by decide))
 exact .inl ⟨by unfold shapeR; rw [if_neg n0, if_neg n2, if_neg n3, if_neg n4, if_neg n5, if_neg n6], by unfold kindsF; rw [if_neg n0, if_neg n2, if_neg n3, if_neg n4, if_neg n5, if_neg n6]⟩
end Go.V
namespace Go.V
open Go.Proofs
set_option maxRecDepth 100000
set_option maxHeartbeats 8000000
set_option linter.unusedSimpArgs false
set_option linter.unnecessarySimpa false
set_option linter.unusedVariables false
def A11 (w0 : ByteArray) (ws : List ByteArray) (ks : List UInt8) : LoopAnn := {
 G := G10
 I := fun g => ⟨[(2, .ptr 0 0), (4, .own 1), (5, .str (bsOf ks)), (6, .ptr 2 0), (48, .int .i64 ws.length), (49, .int .i64 g.i)],
  [.struct [.str ByteArray.empty, .nils, .int .u64 0, .int .u64 0, .nils], .row true 16 .str (w0 :: ws), .struct [.str g.c.word, .own 3, .int .u64 g.c.client, .int .u64 g.c.serial, .own 4], .row true 16 .str g.c.keys, .row true 8 (.int .i64) g.c.ints]⟩
 R := fun _ g => goR (ks.drop g.i) (ws.drop g.i) g.c = goR ks ws ⟨w0, [], 0, 0, []⟩ ∧ g.i ≤ ws.length ∧ g.c.keys.length ≤ g.i ∧ g.c.ints.length ≤ g.i
 μ := fun g => ws.length - g.i }
theorem I11 (w0 ws ks) (g : G10) : (A11 w0 ws ks).I g = ⟨[(2, .ptr 0 0), (4, .own 1), (5, .str (bsOf ks)), (6, .ptr 2 0), (48, .int .i64 ws.length), (49, .int .i64 g.i)],
  [.struct [.str ByteArray.empty, .nils, .int .u64 0, .int .u64 0, .nils], .row true 16 .str (w0 :: ws), .struct [.str g.c.word, .own 3, .int .u64 g.c.client, .int .u64 g.c.serial, .own 4], .row true 16 .str g.c.keys, .row true 8 (.int .i64) g.c.ints]⟩ := rfl
theorem step_len {k : UInt8} {x : ByteArray} {c c' : Cmd} (h : stepR k x c = some c') : c'.keys.length ≤ c.keys.length + 1 ∧ c'.ints.length ≤ c.ints.length + 1 := by
 rw [stepR_fix] at h
 unfold stepC at h
 split at h
 ·cases hn : natF x.data.toList with
  | none => rw [hn] at h; cases h
  | some v => rw [hn] at h; cases h; exact ⟨Nat.le_succ _, Nat.le_succ _⟩
 split at h
 ·cases hn : natF x.data.toList with
  | none => rw [hn] at h; cases h
  | some v => rw [hn] at h; cases h; exact ⟨Nat.le_succ _, Nat.le_succ _⟩
 split at h
 ·cases hn : numI x.data.toList with
  | none => rw [hn] at h; cases h
  | some v => rw [hn] at h; cases h; exact ⟨Nat.le_succ _, by simp⟩
 split at h
 ·cases h; exact ⟨by simp, Nat.le_succ _⟩
 split at h
 ·split at h
  ·cases h; exact ⟨by simp, Nat.le_succ _⟩
  ·cases h
 ·cases h
section use
variable {K : SV → List SB → Prop}
theorem use31 {s : ByteArray} (hs : s.size ≤ 100000) (k : K (.own 0) [.row true 16 .str (wordsB s)]) : C31 [.str s] [] K := ⟨hs, k⟩
theorem use32 {w : ByteArray} (k : K (.str (shapeR w)) []) : C32 [.str w] [] K := k
theorem use33 {k : UInt8} {m : Int} {s : ByteArray} {c : Cmd} (hm : m = k.toNat) (hk : kindR k) (hb : s.size ≤ 100000 ∧ c.keys.length ≤ 1000000 ∧ c.ints.length ≤ 1000000)
  (h0 : stepR k s c = none → ∀ (c2 : Cmd) (a b : Bool), K (.bool false) (cmdG a b c2)) (h1 : ∀ c', stepR k s c = some c' → ∀ a b : Bool, K (.bool true) (cmdG a b c')) :
  C33 [.ptr 0 0, .int .u8 m, .str s] (cmdG false false c) K := ⟨k, c, hm, hk, rfl, hb, h0, h1⟩
end use
attribute [local irreducible] rc C31 C32 C33
theorem s11 : Sound Tryz.prog 11 CParse := by
 refine sound_of_okF ok11 (.cons s31 (callable_of_okF ok31) (.cons s32 (callable_of_okF ok32) (.cons s33 (callable_of_okF ok33) .nil))) ?_
 intro args hp K h
 unfold CParse at h
 split at h
 ·rename_i s
  obtain ⟨hs, h1, h2⟩ := h
  obtain ⟨w0, ws, hw, hn⟩ := words_cons s
  rcases kinds_tie w0 ws.length with ⟨hq, hF⟩ | ⟨ks, ks', t1, t2, t3, t4, t5, t6⟩
  ·skip
   refine ⟨by simp, [], ?_⟩
   have hm := maxLen_val
   simp (maxSteps:=9^9) only [a11, r11, go_sem, Int.reduceLT, Int.reduceLE, Int.reduceEq, Int.reduceNe, Int.reduceAdd, Int.reduceSub, Int.reduceMul, Int.reduceToNat, Int.reduceNeg, Nat.reduceEqDiff, Nat.reduceLeDiff, Nat.reduceSub, Nat.reduceMul, Nat.reduceLT, Nat.reduceBEq, Nat.reduceAdd, Nat.reduceDiv, Nat.reduceMod]
   rintro _ m rfl c0 hc0
   refine swd9 hc0 (fun hl => ?_) (fun hl => ?_)
   ·exact h1 4 (by unfold parseC; rw [if_pos (by omega)])
   refine use31 (by omega) ?_
   have hp : parseC s = match kindsF w0 ws.length with
     | none => .error 2
     | some ks => if ws.length = ks.length then (match goC ks ws ⟨w0, [], 0, 0, []⟩ with
       | some c => .ok c
       | none => .error 2) else .error 2 := by
    unfold parseC
    rw [if_neg (by omega), hw]
    rfl
   have hw0 := hw
   rw [hw]
   rw [hp] at h1 h2
   clear hp hw
   simp (maxSteps:=9^9) only [go_sem, Int.reduceLT, Int.reduceLE, Int.reduceEq, Int.reduceNe, Int.reduceAdd, Int.reduceSub, Int.reduceMul, Int.reduceToNat, Int.reduceNeg, Nat.reduceEqDiff, Nat.reduceLeDiff, Nat.reduceSub, Nat.reduceMul, Nat.reduceLT, Nat.reduceBEq, Nat.reduceAdd, Nat.reduceDiv, Nat.reduceMod]
   have e2 : elt Ty.str (w0 :: ws) 0 = w0 := rfl
   refine nd_intro (by simp) ?_
   rw [e2]
   refine use32 ?_
   simp (maxSteps:=9^9) only [go_sem, Int.reduceLT, Int.reduceLE, Int.reduceEq, Int.reduceNe, Int.reduceAdd, Int.reduceSub, Int.reduceMul, Int.reduceToNat, Int.reduceNeg, Nat.reduceEqDiff, Nat.reduceLeDiff, Nat.reduceSub, Nat.reduceMul, Nat.reduceLT, Nat.reduceBEq, Nat.reduceAdd, Nat.reduceDiv, Nat.reduceMod]
   refine nd_intro (by simp) ?_
   intro c hc
   refine swd9 hc (fun _ => ?_) (fun e => absurd hq e)
   rw [hF] at h1
   exact h1 2 rfl
  ·skip
   refine ⟨by simp, [(1, A11 w0 ws ks)], ?_⟩
   have hm := maxLen_val
   simp (maxSteps:=9^9) only [a11, r11, go_sem, Int.reduceLT, Int.reduceLE, Int.reduceEq, Int.reduceNe, Int.reduceAdd, Int.reduceSub, Int.reduceMul, Int.reduceToNat, Int.reduceNeg, Nat.reduceEqDiff, Nat.reduceLeDiff, Nat.reduceSub, Nat.reduceMul, Nat.reduceLT, Nat.reduceBEq, Nat.reduceAdd, Nat.reduceDiv, Nat.reduceMod]
   rintro _ m rfl c0 hc0
   refine swd9 hc0 (fun hl => ?_) (fun hl => ?_)
   ·exact h1 4 (by unfold parseC; rw [if_pos (by omega)])
   refine use31 (by omega) ?_
   have hp : parseC s = match kindsF w0 ws.length with
     | none => .error 2
     | some ks => if ws.length = ks.length then (match goC ks ws ⟨w0, [], 0, 0, []⟩ with
       | some c => .ok c
       | none => .error 2) else .error 2 := by
    unfold parseC
    rw [if_neg (by omega), hw]
    rfl
   have hw0 := hw
   rw [hw]
   rw [hp] at h1 h2
   clear hp hw
   simp (maxSteps:=9^9) only [go_sem, Int.reduceLT, Int.reduceLE, Int.reduceEq, Int.reduceNe, Int.reduceAdd, Int.reduceSub, Int.reduceMul, Int.reduceToNat, Int.reduceNeg, Nat.reduceEqDiff, Nat.reduceLeDiff, Nat.reduceSub, Nat.reduceMul, Nat.reduceLT, Nat.reduceBEq, Nat.reduceAdd, Nat.reduceDiv, Nat.reduceMod]
   have e2 : elt Ty.str (w0 :: ws) 0 = w0 := rfl
   refine nd_intro (by simp) ?_
   rw [e2]
   refine use32 ?_
   simp (maxSteps:=9^9) only [go_sem, Int.reduceLT, Int.reduceLE, Int.reduceEq, Int.reduceNe, Int.reduceAdd, Int.reduceSub, Int.reduceMul, Int.reduceToNat, Int.reduceNeg, Nat.reduceEqDiff, Nat.reduceLeDiff, Nat.reduceSub, Nat.reduceMul, Nat.reduceLT, Nat.reduceBEq, Nat.reduceAdd, Nat.reduceDiv, Nat.reduceMod]
   rw [t2] at h1 h2
   refine nd_intro (by simp) ?_
   intro c hc
   refine swd9 hc (fun e => absurd e t3) (fun _ => ?_)
   rintro _ _ m rfl _ _ m1 hm1
   rw [w64 (by omega)] at hm1
   have hm1' : m1 = ws.length := by omega
   subst hm1'
   clear hm1
   refine nd_intro (by simp) ?_
   rw [e2]
   have hoffs : w0 = offerW ∧ 4 ≤ ws.length ∧ ws.length ≤ 8 → (⟨#[99, 115, 107, 105, 97, 97, 97, 97]⟩ : ByteArray).extract 0 ((ws.length : Int)).toNat = bsOf ks := fun e => by
    rw [← t1]
    unfold kindsR
    rw [if_pos e, extract_bs, Int.toNat_natCast]
    rfl
   have hnoff : ¬ (w0 = offerW ∧ 4 ≤ ws.length ∧ ws.length ≤ 8) → shapeR w0 = bsOf ks := fun e => by
    rw [← t1]
    unfold kindsR
    rw [if_neg e]
   intro c2 hc2
   refine swd9 hc2 (fun eo => ?_) (fun eo => ?_)
   ·intro c3 hc3
    refine swd9 hc3 (fun e4 => ?_) (fun e4 => ?_)
    ·intro c4 hc4
     refine swd9 hc4 (fun e8 => ?_) (fun e8 => ?_)
     ·refine nd_intro ⟨by omega, e8⟩ ?_
      rintro u rfl
      rw [hoffs ⟨eo, by omega, by omega⟩]
      intro _ m hm9 c9 hc9
      rw [bsOf_size] at hm9
      refine swn9 hc9 (fun hne => ?_) (fun heq => ?_)
      ·exact h1 2 (by simp only [if_neg (t6 (by omega))])
      have hlen : ws.length = ks.length := by omega
      have hk' := t5 hlen
      subst hk'
      have hlen' : ws.length = (ks.map fixK).length := by rw [List.length_map]; exact hlen
      simp only [if_pos hlen', ← goR_fix] at h1 h2
      refine loop_intro (A := A11 w0 ws ks) (⟨0, ⟨w0, [], 0, 0, []⟩⟩ : G10) ?_ ⟨rfl, Nat.zero_le _, Nat.le_refl _, Nat.le_refl _⟩ ?_
      ·simp (maxSteps:=9^9) only [I11, go_sem, Int.reduceLT, Int.reduceLE, Int.reduceEq, Int.reduceNe, Int.reduceAdd, Int.reduceSub, Int.reduceMul, Int.reduceToNat, Int.reduceNeg, Nat.reduceEqDiff, Nat.reduceLeDiff, Nat.reduceSub, Nat.reduceMul, Nat.reduceLT, Nat.reduceBEq, Nat.reduceAdd, Nat.reduceDiv, Nat.reduceMod]
       rfl
      rintro ⟨i, c⟩ ⟨g1, g2, g3, g4⟩
      change goR (ks.drop i) (ws.drop i) c = goR ks ws ⟨w0, [], 0, 0, []⟩ at g1
      change i ≤ ws.length at g2
      change c.keys.length ≤ i at g3
      change c.ints.length ≤ i at g4
      simp (maxSteps:=9^9) only [I11, go_sem, Int.reduceLT, Int.reduceLE, Int.reduceEq, Int.reduceNe, Int.reduceAdd, Int.reduceSub, Int.reduceMul, Int.reduceToNat, Int.reduceNeg, Nat.reduceEqDiff, Nat.reduceLeDiff, Nat.reduceSub, Nat.reduceMul, Nat.reduceLT, Nat.reduceBEq, Nat.reduceAdd, Nat.reduceDiv, Nat.reduceMod]
      intro cc hcc
      refine swd9 hcc (fun hlt => ?_) (fun hge => ?_)
      ·obtain ⟨k, kr, hki⟩ : ∃ k kr, ks.drop i = k :: kr := by
        cases hx : ks.drop i with
        | nil => have := congrArg List.length hx; simp at this; omega
        | cons a b => exact ⟨a, b, rfl⟩
       obtain ⟨x, xr, hwi⟩ : ∃ x xr, ws.drop i = x :: xr := by
        cases hx : ws.drop i with
        | nil => have := congrArg List.length hx; simp at this; omega
        | cons a b => exact ⟨a, b, rfl⟩
       have hkk : ks[i]? = some k := by rw [← List.head?_drop, hki]; rfl
       have hww : ws[i]? = some x := by rw [← List.head?_drop, hwi]; rfl
       refine nd_intro (by rw [bsOf_size]; omega) ?_
       intro m hm1 _ _ m2 hm2
       rw [w64 (by omega)] at hm2
       have ex : elt Ty.str (w0 :: ws) m2.toNat = x := elt_eq (by rw [show m2.toNat = i + 1 by omega]; simpa using hww)
       refine nd_intro (by omega) (nd_intro (by omega) ?_)
       rw [ex]
       have hxs : x.size ≤ s.size := words_size (by rw [hw0]; exact List.mem_cons_of_mem _ (List.mem_of_getElem? hww))
       refine use33 (by rw [hm1]; simp [bsOf, List.getD_eq_getElem?_getD, hkk]) (t4 k (List.mem_of_getElem? hkk)) ⟨by omega, by omega, by omega⟩ (fun hno c2 a b => ?_) (fun c' hso a b => ?_)
       ·simp (maxSteps:=9^9) only [cmdG, go_sem, Int.reduceLT, Int.reduceLE, Int.reduceEq, Int.reduceNe, Int.reduceAdd, Int.reduceSub, Int.reduceMul, Int.reduceToNat, Int.reduceNeg, Nat.reduceEqDiff, Nat.reduceLeDiff, Nat.reduceSub, Nat.reduceMul, Nat.reduceLT, Nat.reduceBEq, Nat.reduceAdd, Nat.reduceDiv, Nat.reduceMod]
        have hbad := h1 2 (by rw [← g1, hki, hwi, goR, hno])
        cases a <;> cases b <;> (simp (maxSteps:=9^9) only [go_sem, Int.reduceLT, Int.reduceLE, Int.reduceEq, Int.reduceNe, Int.reduceAdd, Int.reduceSub, Int.reduceMul, Int.reduceToNat, Int.reduceNeg, Nat.reduceEqDiff, Nat.reduceLeDiff, Nat.reduceSub, Nat.reduceMul, Nat.reduceLT, Nat.reduceBEq, Nat.reduceAdd, Nat.reduceDiv, Nat.reduceMod]; exact hbad)
       ·have hkr : ks.drop (i + 1) = kr := by rw [← List.tail_drop, hki]; rfl
        have hwr : ws.drop (i + 1) = xr := by rw [← List.tail_drop, hwi]; rfl
        obtain ⟨l1, l2⟩ := step_len hso
        simp (maxSteps:=9^9) only [cmdG, go_sem, Int.reduceLT, Int.reduceLE, Int.reduceEq, Int.reduceNe, Int.reduceAdd, Int.reduceSub, Int.reduceMul, Int.reduceToNat, Int.reduceNeg, Nat.reduceEqDiff, Nat.reduceLeDiff, Nat.reduceSub, Nat.reduceMul, Nat.reduceLT, Nat.reduceBEq, Nat.reduceAdd, Nat.reduceDiv, Nat.reduceMod]
        rintro _ _ m3 hm3
        rw [w64 (by omega)] at hm3
        subst hm3
        refine lpE_intro (A := A11 w0 ws ks) (⟨i + 1, c'⟩ : G10) ?_ ⟨by show goR (ks.drop (i + 1)) (ws.drop (i + 1)) c' = _; rw [hkr, hwr, ← g1, hki, hwi, goR, hso], by show i + 1 ≤ ws.length; omega, by show c'.keys.length ≤ i + 1; omega, by show c'.ints.length ≤ i + 1; omega⟩ (by show ws.length - (i + 1) < ws.length - i; omega)
        cases a <;> cases b <;> (simp (maxSteps:=9^9) only [I11, go_sem, Int.reduceLT, Int.reduceLE, Int.reduceEq, Int.reduceNe, Int.reduceAdd, Int.reduceSub, Int.reduceMul, Int.reduceToNat, Int.reduceNeg, Nat.reduceEqDiff, Nat.reduceLeDiff, Nat.reduceSub, Nat.reduceMul, Nat.reduceLT, Nat.reduceBEq, Nat.reduceAdd, Nat.reduceDiv, Nat.reduceMod]; rfl)
      ·have hi : i = ws.length := by omega
       subst hi
       rw [List.drop_length, hlen, List.drop_length] at g1
       exact h2 c (by rw [← g1]; rfl)
     ·rw [hnoff (fun e => e8 (by omega))]
      intro _ m hm9 c9 hc9
      rw [bsOf_size] at hm9
      refine swn9 hc9 (fun hne => ?_) (fun heq => ?_)
      ·exact h1 2 (by simp only [if_neg (t6 (by omega))])
      have hlen : ws.length = ks.length := by omega
      have hk' := t5 hlen
      subst hk'
      have hlen' : ws.length = (ks.map fixK).length := by rw [List.length_map]; exact hlen
      simp only [if_pos hlen', ← goR_fix] at h1 h2
      refine loop_intro (A := A11 w0 ws ks) (⟨0, ⟨w0, [], 0, 0, []⟩⟩ : G10) ?_ ⟨rfl, Nat.zero_le _, Nat.le_refl _, Nat.le_refl _⟩ ?_
      ·simp (maxSteps:=9^9) only [I11, go_sem, Int.reduceLT, Int.reduceLE, Int.reduceEq, Int.reduceNe, Int.reduceAdd, Int.reduceSub, Int.reduceMul, Int.reduceToNat, Int.reduceNeg, Nat.reduceEqDiff, Nat.reduceLeDiff, Nat.reduceSub, Nat.reduceMul, Nat.reduceLT, Nat.reduceBEq, Nat.reduceAdd, Nat.reduceDiv, Nat.reduceMod]
       rfl
      rintro ⟨i, c⟩ ⟨g1, g2, g3, g4⟩
      change goR (ks.drop i) (ws.drop i) c = goR ks ws ⟨w0, [], 0, 0, []⟩ at g1
      change i ≤ ws.length at g2
      change c.keys.length ≤ i at g3
      change c.ints.length ≤ i at g4
      simp (maxSteps:=9^9) only [I11, go_sem, Int.reduceLT, Int.reduceLE, Int.reduceEq, Int.reduceNe, Int.reduceAdd, Int.reduceSub, Int.reduceMul, Int.reduceToNat, Int.reduceNeg, Nat.reduceEqDiff, Nat.reduceLeDiff, Nat.reduceSub, Nat.reduceMul, Nat.reduceLT, Nat.reduceBEq, Nat.reduceAdd, Nat.reduceDiv, Nat.reduceMod]
      intro cc hcc
      refine swd9 hcc (fun hlt => ?_) (fun hge => ?_)
      ·obtain ⟨k, kr, hki⟩ : ∃ k kr, ks.drop i = k :: kr := by
        cases hx : ks.drop i with
        | nil => have := congrArg List.length hx; simp at this; omega
        | cons a b => exact ⟨a, b, rfl⟩
       obtain ⟨x, xr, hwi⟩ : ∃ x xr, ws.drop i = x :: xr := by
        cases hx : ws.drop i with
        | nil => have := congrArg List.length hx; simp at this; omega
        | cons a b => exact ⟨a, b, rfl⟩
       have hkk : ks[i]? = some k := by rw [← List.head?_drop, hki]; rfl
       have hww : ws[i]? = some x := by rw [← List.head?_drop, hwi]; rfl
       refine nd_intro (by rw [bsOf_size]; omega) ?_
       intro m hm1 _ _ m2 hm2
       rw [w64 (by omega)] at hm2
       have ex : elt Ty.str (w0 :: ws) m2.toNat = x := elt_eq (by rw [show m2.toNat = i + 1 by omega]; simpa using hww)
       refine nd_intro (by omega) (nd_intro (by omega) ?_)
       rw [ex]
       have hxs : x.size ≤ s.size := words_size (by rw [hw0]; exact List.mem_cons_of_mem _ (List.mem_of_getElem? hww))
       refine use33 (by rw [hm1]; simp [bsOf, List.getD_eq_getElem?_getD, hkk]) (t4 k (List.mem_of_getElem? hkk)) ⟨by omega, by omega, by omega⟩ (fun hno c2 a b => ?_) (fun c' hso a b => ?_)
       ·simp (maxSteps:=9^9) only [cmdG, go_sem, Int.reduceLT, Int.reduceLE, Int.reduceEq, Int.reduceNe, Int.reduceAdd, Int.reduceSub, Int.reduceMul, Int.reduceToNat, Int.reduceNeg, Nat.reduceEqDiff, Nat.reduceLeDiff, Nat.reduceSub, Nat.reduceMul, Nat.reduceLT, Nat.reduceBEq, Nat.reduceAdd, Nat.reduceDiv, Nat.reduceMod]
        have hbad := h1 2 (by rw [← g1, hki, hwi, goR, hno])
        cases a <;> cases b <;> (simp (maxSteps:=9^9) only [go_sem, Int.reduceLT, Int.reduceLE, Int.reduceEq, Int.reduceNe, Int.reduceAdd, Int.reduceSub, Int.reduceMul, Int.reduceToNat, Int.reduceNeg, Nat.reduceEqDiff, Nat.reduceLeDiff, Nat.reduceSub, Nat.reduceMul, Nat.reduceLT, Nat.reduceBEq, Nat.reduceAdd, Nat.reduceDiv, Nat.reduceMod]; exact hbad)
       ·have hkr : ks.drop (i + 1) = kr := by rw [← List.tail_drop, hki]; rfl
        have hwr : ws.drop (i + 1) = xr := by rw [← List.tail_drop, hwi]; rfl
        obtain ⟨l1, l2⟩ := step_len hso
        simp (maxSteps:=9^9) only [cmdG, go_sem, Int.reduceLT, Int.reduceLE, Int.reduceEq, Int.reduceNe, Int.reduceAdd, Int.reduceSub, Int.reduceMul, Int.reduceToNat, Int.reduceNeg, Nat.reduceEqDiff, Nat.reduceLeDiff, Nat.reduceSub, Nat.reduceMul, Nat.reduceLT, Nat.reduceBEq, Nat.reduceAdd, Nat.reduceDiv, Nat.reduceMod]
        rintro _ _ m3 hm3
        rw [w64 (by omega)] at hm3
        subst hm3
        refine lpE_intro (A := A11 w0 ws ks) (⟨i + 1, c'⟩ : G10) ?_ ⟨by show goR (ks.drop (i + 1)) (ws.drop (i + 1)) c' = _; rw [hkr, hwr, ← g1, hki, hwi, goR, hso], by show i + 1 ≤ ws.length; omega, by show c'.keys.length ≤ i + 1; omega, by show c'.ints.length ≤ i + 1; omega⟩ (by show ws.length - (i + 1) < ws.length - i; omega)
        cases a <;> cases b <;> (simp (maxSteps:=9^9) only [I11, go_sem, Int.reduceLT, Int.reduceLE, Int.reduceEq, Int.reduceNe, Int.reduceAdd, Int.reduceSub, Int.reduceMul, Int.reduceToNat, Int.reduceNeg, Nat.reduceEqDiff, Nat.reduceLeDiff, Nat.reduceSub, Nat.reduceMul, Nat.reduceLT, Nat.reduceBEq, Nat.reduceAdd, Nat.reduceDiv, Nat.reduceMod]; rfl)
      ·have hi : i = ws.length := by omega
       subst hi
       rw [List.drop_length, hlen, List.drop_length] at g1
       exact h2 c (by rw [← g1]; rfl)
    ·rw [hnoff (fun e => e4 (by omega))]
     intro _ m hm9 c9 hc9
     rw [bsOf_size] at hm9
     refine swn9 hc9 (fun hne => ?_) (fun heq => ?_)
     ·exact h1 2 (by simp only [if_neg (t6 (by omega))])
     have hlen : ws.length = ks.length := by omega
     have hk' := t5 hlen
     subst hk'
     have hlen' : ws.length = (ks.map fixK).length := by rw [List.length_map]; exact hlen
     simp only [if_pos hlen', ← goR_fix] at h1 h2
     refine loop_intro (A := A11 w0 ws ks) (⟨0, ⟨w0, [], 0, 0, []⟩⟩ : G10) ?_ ⟨rfl, Nat.zero_le _, Nat.le_refl _, Nat.le_refl _⟩ ?_
     ·simp (maxSteps:=9^9) only [I11, go_sem, Int.reduceLT, Int.reduceLE, Int.reduceEq, Int.reduceNe, Int.reduceAdd, Int.reduceSub, Int.reduceMul, Int.reduceToNat, Int.reduceNeg, Nat.reduceEqDiff, Nat.reduceLeDiff, Nat.reduceSub, Nat.reduceMul, Nat.reduceLT, Nat.reduceBEq, Nat.reduceAdd, Nat.reduceDiv, Nat.reduceMod]
      rfl
     rintro ⟨i, c⟩ ⟨g1, g2, g3, g4⟩
     change goR (ks.drop i) (ws.drop i) c = goR ks ws ⟨w0, [], 0, 0, []⟩ at g1
     change i ≤ ws.length at g2
     change c.keys.length ≤ i at g3
     change c.ints.length ≤ i at g4
     simp (maxSteps:=9^9) only [I11, go_sem, Int.reduceLT, Int.reduceLE, Int.reduceEq, Int.reduceNe, Int.reduceAdd, Int.reduceSub, Int.reduceMul, Int.reduceToNat, Int.reduceNeg, Nat.reduceEqDiff, Nat.reduceLeDiff, Nat.reduceSub, Nat.reduceMul, Nat.reduceLT, Nat.reduceBEq, Nat.reduceAdd, Nat.reduceDiv, Nat.reduceMod]
     intro cc hcc
     refine swd9 hcc (fun hlt => ?_) (fun hge => ?_)
     ·obtain ⟨k, kr, hki⟩ : ∃ k kr, ks.drop i = k :: kr := by
       cases hx : ks.drop i with
       | nil => have := congrArg List.length hx; simp at this; omega
       | cons a b => exact ⟨a, b, rfl⟩
      obtain ⟨x, xr, hwi⟩ : ∃ x xr, ws.drop i = x :: xr := by
       cases hx : ws.drop i with
       | nil => have := congrArg List.length hx; simp at this; omega
       | cons a b => exact ⟨a, b, rfl⟩
      have hkk : ks[i]? = some k := by rw [← List.head?_drop, hki]; rfl
      have hww : ws[i]? = some x := by rw [← List.head?_drop, hwi]; rfl
      refine nd_intro (by rw [bsOf_size]; omega) ?_
      intro m hm1 _ _ m2 hm2
      rw [w64 (by omega)] at hm2
      have ex : elt Ty.str (w0 :: ws) m2.toNat = x := elt_eq (by rw [show m2.toNat = i + 1 by omega]; simpa using hww)
      refine nd_intro (by omega) (nd_intro (by omega) ?_)
      rw [ex]
      have hxs : x.size ≤ s.size := words_size (by rw [hw0]; exact List.mem_cons_of_mem _ (List.mem_of_getElem? hww))
      refine use33 (by rw [hm1]; simp [bsOf, List.getD_eq_getElem?_getD, hkk]) (t4 k (List.mem_of_getElem? hkk)) ⟨by omega, by omega, by omega⟩ (fun hno c2 a b => ?_) (fun c' hso a b => ?_)
      ·simp (maxSteps:=9^9) only [cmdG, go_sem, Int.reduceLT, Int.reduceLE, Int.reduceEq, Int.reduceNe, Int.reduceAdd, Int.reduceSub, Int.reduceMul, Int.reduceToNat, Int.reduceNeg, Nat.reduceEqDiff, Nat.reduceLeDiff, Nat.reduceSub, Nat.reduceMul, Nat.reduceLT, Nat.reduceBEq, Nat.reduceAdd, Nat.reduceDiv, Nat.reduceMod]
       have hbad := h1 2 (by rw [← g1, hki, hwi, goR, hno])
       cases a <;> cases b <;> (simp (maxSteps:=9^9) only [go_sem, Int.reduceLT, Int.reduceLE, Int.reduceEq, Int.reduceNe, Int.reduceAdd, Int.reduceSub, Int.reduceMul, Int.reduceToNat, Int.reduceNeg, Nat.reduceEqDiff, Nat.reduceLeDiff, Nat.reduceSub, Nat.reduceMul, Nat.reduceLT, Nat.reduceBEq, Nat.reduceAdd, Nat.reduceDiv, Nat.reduceMod]; exact hbad)
      ·have hkr : ks.drop (i + 1) = kr := by rw [← List.tail_drop, hki]; rfl
       have hwr : ws.drop (i + 1) = xr := by rw [← List.tail_drop, hwi]; rfl
       obtain ⟨l1, l2⟩ := step_len hso
       simp (maxSteps:=9^9) only [cmdG, go_sem, Int.reduceLT, Int.reduceLE, Int.reduceEq, Int.reduceNe, Int.reduceAdd, Int.reduceSub, Int.reduceMul, Int.reduceToNat, Int.reduceNeg, Nat.reduceEqDiff, Nat.reduceLeDiff, Nat.reduceSub, Nat.reduceMul, Nat.reduceLT, Nat.reduceBEq, Nat.reduceAdd, Nat.reduceDiv, Nat.reduceMod]
       rintro _ _ m3 hm3
       rw [w64 (by omega)] at hm3
       subst hm3
       refine lpE_intro (A := A11 w0 ws ks) (⟨i + 1, c'⟩ : G10) ?_ ⟨by show goR (ks.drop (i + 1)) (ws.drop (i + 1)) c' = _; rw [hkr, hwr, ← g1, hki, hwi, goR, hso], by show i + 1 ≤ ws.length; omega, by show c'.keys.length ≤ i + 1; omega, by show c'.ints.length ≤ i + 1; omega⟩ (by show ws.length - (i + 1) < ws.length - i; omega)
       cases a <;> cases b <;> (simp (maxSteps:=9^9) only [I11, go_sem, Int.reduceLT, Int.reduceLE, Int.reduceEq, Int.reduceNe, Int.reduceAdd, Int.reduceSub, Int.reduceMul, Int.reduceToNat, Int.reduceNeg, Nat.reduceEqDiff, Nat.reduceLeDiff, Nat.reduceSub, Nat.reduceMul, Nat.reduceLT, Nat.reduceBEq, Nat.reduceAdd, Nat.reduceDiv, Nat.reduceMod]; rfl)
     ·have hi : i = ws.length := by omega
      subst hi
      rw [List.drop_length, hlen, List.drop_length] at g1
      exact h2 c (by rw [← g1]; rfl)
   ·rw [hnoff (fun e => eo e.1)]
    intro _ m hm9 c9 hc9
    rw [bsOf_size] at hm9
    refine swn9 hc9 (fun hne => ?_) (fun heq => ?_)
    ·exact h1 2 (by simp only [if_neg (t6 (by omega))])
    have hlen : ws.length = ks.length := by omega
    have hk' := t5 hlen
    subst hk'
    have hlen' : ws.length = (ks.map fixK).length := by rw [List.length_map]; exact hlen
    simp only [if_pos hlen', ← goR_fix] at h1 h2
    refine loop_intro (A := A11 w0 ws ks) (⟨0, ⟨w0, [], 0, 0, []⟩⟩ : G10) ?_ ⟨rfl, Nat.zero_le _, Nat.le_refl _, Nat.le_refl _⟩ ?_
    ·simp (maxSteps:=9^9) only [I11, go_sem, Int.reduceLT, Int.reduceLE, Int.reduceEq, Int.reduceNe, Int.reduceAdd, Int.reduceSub, Int.reduceMul, Int.reduceToNat, Int.reduceNeg, Nat.reduceEqDiff, Nat.reduceLeDiff, Nat.reduceSub, Nat.reduceMul, Nat.reduceLT, Nat.reduceBEq, Nat.reduceAdd, Nat.reduceDiv, Nat.reduceMod]
     rfl
    rintro ⟨i, c⟩ ⟨g1, g2, g3, g4⟩
    change goR (ks.drop i) (ws.drop i) c = goR ks ws ⟨w0, [], 0, 0, []⟩ at g1
    change i ≤ ws.length at g2
    change c.keys.length ≤ i at g3
    change c.ints.length ≤ i at g4
    simp (maxSteps:=9^9) only [I11, go_sem, Int.reduceLT, Int.reduceLE, Int.reduceEq, Int.reduceNe, Int.reduceAdd, Int.reduceSub, Int.reduceMul, Int.reduceToNat, Int.reduceNeg, Nat.reduceEqDiff, Nat.reduceLeDiff, Nat.reduceSub, Nat.reduceMul, Nat.reduceLT, Nat.reduceBEq, Nat.reduceAdd, Nat.reduceDiv, Nat.reduceMod]
    intro cc hcc
    refine swd9 hcc (fun hlt => ?_) (fun hge => ?_)
    ·obtain ⟨k, kr, hki⟩ : ∃ k kr, ks.drop i = k :: kr := by
      cases hx : ks.drop i with
      | nil => have := congrArg List.length hx; simp at this; omega
      | cons a b => exact ⟨a, b, rfl⟩
     obtain ⟨x, xr, hwi⟩ : ∃ x xr, ws.drop i = x :: xr := by
      cases hx : ws.drop i with
      | nil => have := congrArg List.length hx; simp at this; omega
      | cons a b => exact ⟨a, b, rfl⟩
     have hkk : ks[i]? = some k := by rw [← List.head?_drop, hki]; rfl
     have hww : ws[i]? = some x := by rw [← List.head?_drop, hwi]; rfl
     refine nd_intro (by rw [bsOf_size]; omega) ?_
     intro m hm1 _ _ m2 hm2
     rw [w64 (by omega)] at hm2
     have ex : elt Ty.str (w0 :: ws) m2.toNat = x := elt_eq (by rw [show m2.toNat = i + 1 by omega]; simpa using hww)
     refine nd_intro (by omega) (nd_intro (by omega) ?_)
     rw [ex]
     have hxs : x.size ≤ s.size := words_size (by rw [hw0]; exact List.mem_cons_of_mem _ (List.mem_of_getElem? hww))
     refine use33 (by rw [hm1]; simp [bsOf, List.getD_eq_getElem?_getD, hkk]) (t4 k (List.mem_of_getElem? hkk)) ⟨by omega, by omega, by omega⟩ (fun hno c2 a b => ?_) (fun c' hso a b => ?_)
     ·simp (maxSteps:=9^9) only [cmdG, go_sem, Int.reduceLT, Int.reduceLE, Int.reduceEq, Int.reduceNe, Int.reduceAdd, Int.reduceSub, Int.reduceMul, Int.reduceToNat, Int.reduceNeg, Nat.reduceEqDiff, Nat.reduceLeDiff, Nat.reduceSub, Nat.reduceMul, Nat.reduceLT, Nat.reduceBEq, Nat.reduceAdd, Nat.reduceDiv, Nat.reduceMod]
      have hbad := h1 2 (by rw [← g1, hki, hwi, goR, hno])
      cases a <;> cases b <;> (simp (maxSteps:=9^9) only [go_sem, Int.reduceLT, Int.reduceLE, Int.reduceEq, Int.reduceNe, Int.reduceAdd, Int.reduceSub, Int.reduceMul, Int.reduceToNat, Int.reduceNeg, Nat.reduceEqDiff, Nat.reduceLeDiff, Nat.reduceSub, Nat.reduceMul, Nat.reduceLT, Nat.reduceBEq, Nat.reduceAdd, Nat.reduceDiv, Nat.reduceMod]; exact hbad)
     ·have hkr : ks.drop (i + 1) = kr := by rw [← List.tail_drop, hki]; rfl
      have hwr : ws.drop (i + 1) = xr := by rw [← List.tail_drop, hwi]; rfl
      obtain ⟨l1, l2⟩ := step_len hso
      simp (maxSteps:=9^9) only [cmdG, go_sem, Int.reduceLT, Int.reduceLE, Int.reduceEq, Int.reduceNe, Int.reduceAdd, Int.reduceSub, Int.reduceMul, Int.reduceToNat, Int.reduceNeg, Nat.reduceEqDiff, Nat.reduceLeDiff, Nat.reduceSub, Nat.reduceMul, Nat.reduceLT, Nat.reduceBEq, Nat.reduceAdd, Nat.reduceDiv, Nat.reduceMod]
      rintro _ _ m3 hm3
      rw [w64 (by omega)] at hm3
      subst hm3
      refine lpE_intro (A := A11 w0 ws ks) (⟨i + 1, c'⟩ : G10) ?_ ⟨by show goR (ks.drop (i + 1)) (ws.drop (i + 1)) c' = _; rw [hkr, hwr, ← g1, hki, hwi, goR, hso], by show i + 1 ≤ ws.length; omega, by show c'.keys.length ≤ i + 1; omega, by show c'.ints.length ≤ i + 1; omega⟩ (by show ws.length - (i + 1) < ws.length - i; omega)
      cases a <;> cases b <;> (simp (maxSteps:=9^9) only [I11, go_sem, Int.reduceLT, Int.reduceLE, Int.reduceEq, Int.reduceNe, Int.reduceAdd, Int.reduceSub, Int.reduceMul, Int.reduceToNat, Int.reduceNeg, Nat.reduceEqDiff, Nat.reduceLeDiff, Nat.reduceSub, Nat.reduceMul, Nat.reduceLT, Nat.reduceBEq, Nat.reduceAdd, Nat.reduceDiv, Nat.reduceMod]; rfl)
    ·have hi : i = ws.length := by omega
     subst hi
     rw [List.drop_length, hlen, List.drop_length] at g1
     exact h2 c (by rw [← g1]; rfl)
 ·exact h.elim
end Go.V
namespace Go.V
set_option linter.unusedSimpArgs false
set_option linter.unnecessarySimpa false
set_option linter.unusedVariables false
instance : DecidableEq Cmd := fun a b =>
 decidable_of_iff (a.word = b.word ∧ a.keys = b.keys ∧ a.client = b.client ∧ a.serial = b.serial ∧ a.ints = b.ints)
  ⟨fun ⟨h1, h2, h3, h4, h5⟩ => by
   cases a
   cases b
   simp only at h1 h2 h3 h4 h5
   subst h1 h2 h3 h4 h5
   rfl, fun h => by rw [h]; exact ⟨rfl, rfl, rfl, rfl, rfl⟩⟩
/-! ### a command's text -/
def hexW (s : ByteArray) : ByteArray := if s = ByteArray.empty then ⟨#[45]⟩ else hexB s
def addW (s w : ByteArray) : ByteArray := s ++ blankB ++ w
theorem size_app (a b : ByteArray) : (a ++ b).size = a.size + b.size := by simp [ByteArray.size_append]
theorem addW_size (s w : ByteArray) : (addW s w).size = s.size + 1 + w.size := by
 unfold addW
 rw [size_app, size_app]
 rfl
def joinB : List ByteArray → ByteArray
 | [] => ByteArray.empty
 | w :: r => r.foldl addW w
theorem joinB_snoc {ws : List ByteArray} (h : ws ≠ []) (x : ByteArray) : joinB (ws ++ [x]) = addW (joinB ws) x := by
 cases ws with
 | nil => exact absurd rfl h
 | cons w r => simp [joinB, List.foldl_append]
def allI : ByteArray → List Int → ByteArray × List Int
 | s, [] => (s, [])
 | s, n :: r => if s.size < 2000 then allI (addW s (itoaB n)) r else (s, n :: r)
structure RS where
 s : ByteArray
 ks : List ByteArray
 ns : List Int
def rawStep (c : Cmd) (g : RS) (k : UInt8) : RS :=
 if k = 99 then { g with s := addW g.s (utoaB c.client) }
 else if k = 115 then { g with s := addW g.s (utoaB c.serial) }
 else if k = 107 ∨ k = 110 then match g.ks with
  | [] => g
  | x :: r => { g with s := addW g.s (hexW x), ks := r }
 else if k = 105 then match g.ns with
  | [] => g
  | x :: r => { g with s := addW g.s (itoaB x), ns := r }
 else if k = 97 then ⟨(allI g.s g.ns).1, g.ks, (allI g.s g.ns).2⟩
 else g
def rawText (c : Cmd) : ByteArray := ((shapeR c.word).data.toList.foldl (rawStep c) ⟨c.word, c.keys, c.ints⟩).s
structure PS where
 ws : List ByteArray
 ks : List ByteArray
 ns : List Int
def prStep (c : Cmd) (g : PS) (k : UInt8) : PS :=
 if k = 99 then { g with ws := g.ws ++ [utoaB c.client] }
 else if k = 115 then { g with ws := g.ws ++ [utoaB c.serial] }
 else if k = 105 then match g.ns with
  | [] => g
  | x :: r => { g with ws := g.ws ++ [itoaB x], ns := r }
 else match g.ks with
  | [] => g
  | x :: r => { g with ws := g.ws ++ [hexW x], ks := r }
def prKinds (c : Cmd) : List UInt8 := (kindsF c.word (3 + c.ints.length)).getD []
def prWords (c : Cmd) : List ByteArray := ((prKinds c).foldl (prStep c) ⟨[c.word], c.keys, c.ints⟩).ws
def prText (c : Cmd) : ByteArray := joinB (prWords c)
/-! ### both texts are alike, where they are read back -/
def simP (p : PS) (g : RS) : Prop := p.ws ≠ [] ∧ joinB p.ws = g.s ∧ p.ks = g.ks ∧ p.ns = g.ns
def smallK (k : UInt8) : Prop := k = 99 ∨ k = 115 ∨ k = 107 ∨ k = 110 ∨ k = 105
theorem sim_step (c : Cmd) {p : PS} {g : RS} (h : simP p g) {k : UInt8} (hk : smallK k) : simP (prStep c p k) (rawStep c g k) := by
 obtain ⟨ws, ks, ns⟩ := p
 obtain ⟨s, ks', ns'⟩ := g
 obtain ⟨h0, h1, h2, h3⟩ := h
 simp only at h0 h1 h2 h3
 subst h1; subst h2; subst h3
 rcases hk with rfl | rfl | rfl | rfl | rfl
 ·exact ⟨by simp [prStep], by simp [prStep, rawStep, joinB_snoc h0], by simp [prStep, rawStep], by simp [prStep, rawStep]⟩
 ·exact ⟨by simp [prStep], by simp [prStep, rawStep, joinB_snoc h0], by simp [prStep, rawStep], by simp [prStep, rawStep]⟩
 ·cases ks with
  | nil => exact ⟨by simpa [prStep] using h0, by simp [prStep, rawStep], by simp [prStep, rawStep], by simp [prStep, rawStep]⟩
  | cons x r => exact ⟨by simp [prStep], by simp [prStep, rawStep, joinB_snoc h0], by simp [prStep, rawStep], by simp [prStep, rawStep]⟩
 ·cases ks with
  | nil => exact ⟨by simpa [prStep] using h0, by simp [prStep, rawStep], by simp [prStep, rawStep], by simp [prStep, rawStep]⟩
  | cons x r => exact ⟨by simp [prStep], by simp [prStep, rawStep, joinB_snoc h0], by simp [prStep, rawStep], by simp [prStep, rawStep]⟩
 ·cases ns with
  | nil => exact ⟨by simpa [prStep] using h0, by simp [prStep, rawStep], by simp [prStep, rawStep], by simp [prStep, rawStep]⟩
  | cons x r => exact ⟨by simp [prStep], by simp [prStep, rawStep, joinB_snoc h0], by simp [prStep, rawStep], by simp [prStep, rawStep]⟩
theorem sim_fold (c : Cmd) : ∀ (l : List UInt8) {p : PS} {g : RS}, simP p g → (∀ k ∈ l, smallK k) → simP (l.foldl (prStep c) p) (l.foldl (rawStep c) g)
 | [], _, _, h, _ => h
 | k :: l, _, _, h, hk => sim_fold c l (sim_step c h (hk k (List.mem_cons_self ..))) (fun x hx => hk x (List.mem_cons_of_mem _ hx))
def foldI (s : ByteArray) (l : List Int) : ByteArray := l.foldl (fun s n => addW s (itoaB n)) s
theorem foldI_le : ∀ (l : List Int) (s : ByteArray), s.size ≤ (foldI s l).size
 | [], s => Nat.le_refl _
 | n :: r, s => by
  have := foldI_le r (addW s (itoaB n))
  rw [addW_size] at this
  show s.size ≤ (foldI (addW s (itoaB n)) r).size
  omega
theorem allI_spec : ∀ (l : List Int) (s : ByteArray), (allI s l = (foldI s l, [])) ∨ (2000 ≤ (allI s l).1.size ∧ 2000 ≤ (foldI s l).size)
 | [], s => .inl rfl
 | n :: r, s => by
  unfold allI
  by_cases h : s.size < 2000
  ·rw [if_pos h]
   exact allI_spec r (addW s (itoaB n))
  ·rw [if_neg h]
   have h1 := foldI_le (n :: r) s
   exact .inr ⟨by show 2000 ≤ s.size; omega, by omega⟩
theorem allI_again : ∀ (l : List Int) (s : ByteArray), allI (allI s l).1 (allI s l).2 = allI s l
 | [], s => rfl
 | n :: r, s => by
  by_cases h : s.size < 2000
  ·have e : allI s (n :: r) = allI (addW s (itoaB n)) r := by
    conv => lhs; unfold allI
    rw [if_pos h]
   rw [e]
   exact allI_again r _
  ·have e : allI s (n :: r) = (s, n :: r) := by
    conv => lhs; unfold allI
    rw [if_neg h]
   rw [e]
   exact e
theorem raw_a (c : Cmd) (g : RS) : rawStep c g 97 = ⟨(allI g.s g.ns).1, g.ks, (allI g.s g.ns).2⟩ := by
 simp [rawStep]
theorem raw_4a (c : Cmd) (g : RS) : ([97, 97, 97, 97] : List UInt8).foldl (rawStep c) g = ⟨(allI g.s g.ns).1, g.ks, (allI g.s g.ns).2⟩ := by
 simp only [List.foldl_cons, List.foldl_nil, raw_a, allI_again]
theorem pr_i (c : Cmd) (g : PS) : prStep c g 105 = match g.ns with | [] => g | x :: r => { g with ws := g.ws ++ [itoaB x], ns := r } := by
 simp [prStep]
theorem pr_is (c : Cmd) : ∀ (n : Nat) (g : PS), g.ws ≠ [] → g.ns.length ≤ n → joinB ((List.replicate n (105 : UInt8)).foldl (prStep c) g).ws = foldI (joinB g.ws) g.ns
 | 0, ⟨ws, ks, []⟩, h0, h => rfl
 | 0, ⟨ws, ks, x :: r⟩, h0, h => by simp at h
 | n + 1, ⟨ws, ks, []⟩, h0, h => by
  rw [List.replicate_succ, List.foldl_cons, pr_i]
  exact pr_is c n ⟨ws, ks, []⟩ h0 (Nat.zero_le _)
 | n + 1, ⟨ws, ks, x :: r⟩, h0, h => by
  rw [List.replicate_succ, List.foldl_cons, pr_i]
  have h0' : ws ≠ [] := h0
  have := pr_is c n ⟨ws ++ [itoaB x], ks, r⟩ (by simp) (by simp at h ⊢; omega)
  simp only at this ⊢
  rw [this, joinB_snoc h0']
  rfl
theorem shape_cases (w : ByteArray) : w = offerW ∨ (shapeR w = ⟨#[63]⟩ ∧ ∀ n, kindsF w n = none) ∨ ∃ l, shapeR w = bsOf l ∧ (∀ n, kindsF w n = some l) ∧ (∀ k ∈ l, smallK k) ∧ l.count 105 ≤ 3 ∧ (∀ k ∈ l, k ≠ 99 ∧ k ≠ 115) := by
 by_cases n1 : w = offerW
 ·exact .inl n1
 right
 have n0 : ¬ w = ⟨#[111, 102, 102, 101, 114]⟩ := n1
 have mk : ∀ l : List UInt8, shapeR w = bsOf l → (∀ n, kindsF w n = some l) → (∀ k ∈ l, k = 107 ∨ k = 110 ∨ k = 105) → l.count 105 ≤ 3 → ∃ l, shapeR w = bsOf l ∧ (∀ n, kindsF w n = some l) ∧ (∀ k ∈ l, smallK k) ∧ l.count 105 ≤ 3 ∧ (∀ k ∈ l, k ≠ 99 ∧ k ≠ 115) := by
  intro l a b d e
  refine ⟨l, a, b, fun k hk => ?_, e, fun k hk => ?_⟩
  ·rcases d k hk with e | e | e
   ·exact .inr (.inr (.inl e))
   ·exact .inr (.inr (.inr (.inl e)))
   ·exact .inr (.inr (.inr (.inr e)))
  ·rcases d k hk with rfl | rfl | rfl <;> decide
 rcases Classical.em (w = ⟨#[116, 105, 99, 107]⟩) with e | n2
 ·exact .inr (mk [105] (by unfold shapeR; rw [if_neg n0, if_pos e]; rfl) (fun n => by unfold kindsF; rw [if_neg n0, if_pos e]) (by decide) (by decide))
 rcases Classical.em (w = ⟨#[112, 105, 99, 107]⟩ ∨ w = ⟨#[114, 101, 108, 97, 121]⟩ ∨ w = ⟨#[112, 97, 114, 100, 111, 110]⟩ ∨ w = ⟨#[115, 116, 97, 116, 101]⟩ ∨ w = ⟨#[109, 97, 105, 108]⟩) with e | n3
 ·exact .inr (mk [107] (by unfold shapeR; rw [if_neg n0, if_neg n2, if_pos e]; rfl) (fun n => by unfold kindsF; rw [if_neg n0, if_neg n2, if_pos e]) (by decide) (by decide))
 rcases Classical.em (w = ⟨#[114, 101, 109, 105, 110, 100]⟩) with e | n4
 ·exact .inr (mk [107, 110, 105, 105, 105] (by unfold shapeR; rw [if_neg n0, if_neg n2, if_neg n3, if_pos e]; rfl) (fun n => by unfold kindsF; rw [if_neg n0, if_neg n2, if_neg n3, if_pos e]) (by decide) (by decide))
 rcases Classical.em (w = ⟨#[99, 97, 110, 99, 101, 108]⟩) with e | n5
 ·exact .inr (mk [107, 110] (by unfold shapeR; rw [if_neg n0, if_neg n2, if_neg n3, if_neg n4, if_pos e]; rfl) (fun n => by unfold kindsF; rw [if_neg n0, if_neg n2, if_neg n3, if_neg n4, if_pos e]) (by decide) (by decide))
 rcases Classical.em (w = ⟨#[115, 101, 114, 118, 101]⟩ ∨ w = ⟨#[99, 104, 101, 99, 107, 112, 111, 105, 110, 116]⟩ ∨ w = ⟨#[107, 101, 121, 115]⟩ ∨ w = ⟨#[99, 108, 111, 99, 107]⟩) with e | n6
 ·exact .inr (mk [] (by unfold shapeR; rw [if_neg n0, if_neg n2, if_neg n3, if_neg n4, if_neg n5, if_pos e]; rfl) (fun n => by unfold kindsF; rw [if_neg n0, if_neg n2, if_neg n3, if_neg n4, if_neg n5, if_pos e]) (by decide) (by decide))
 exact .inl ⟨by unfold shapeR; rw [if_neg n0, if_neg n2, if_neg n3, if_neg n4, if_neg n5, if_neg n6], fun n => by unfold kindsF; rw [if_neg n0, if_neg n2, if_neg n3, if_neg n4, if_neg n5, if_neg n6]⟩
theorem kinds_offer (n : Nat) : kindsF offerW n = some ([99, 115, 107, 105] ++ List.replicate (min (n - 4) 4) 105) := by
 unfold kindsF
 exact if_pos rfl
theorem shape_offer : shapeR offerW = bsOf ([99, 115, 107, 105] ++ [97, 97, 97, 97]) := by
 unfold shapeR
 exact (if_pos rfl).trans rfl
theorem bs_list (l : List UInt8) : (bsOf l).data.toList = l := by simp [bsOf]
theorem texts (c : Cmd) : prText c = rawText c ∨ (1000 < (prText c).size ∧ 1000 < (rawText c).size) ∨ (c.word = offerW ∧ 5 < c.ints.length) ∨ (∀ n, kindsF c.word n = none) := by
 rcases shape_cases c.word with hw | ⟨h1, h2⟩ | ⟨l, h1, h2, h3, _, _⟩
 ·by_cases h5 : 5 < c.ints.length
  ·exact .inr (.inr (.inl ⟨hw, h5⟩))
  have hk : prKinds c = [99, 115, 107, 105] ++ List.replicate (min (3 + c.ints.length - 4) 4) 105 := by
   unfold prKinds
   rw [hw, kinds_offer]
   rfl
  have hs : (shapeR c.word).data.toList = [99, 115, 107, 105] ++ [97, 97, 97, 97] := by
   rw [hw, shape_offer, bs_list]
  have hsim := sim_fold c [99, 115, 107, 105] (p := ⟨[c.word], c.keys, c.ints⟩) (g := ⟨c.word, c.keys, c.ints⟩) ⟨by simp, rfl, rfl, rfl⟩ (by intro k hk; simp at hk; unfold smallK; rcases hk with e | e | e | e <;> simp [e])
  have hn : (([99, 115, 107, 105] : List UInt8).foldl (prStep c) ⟨[c.word], c.keys, c.ints⟩).ns.length ≤ min (3 + c.ints.length - 4) 4 := by
   cases hc : c.ints with
   | nil => cases hkk : c.keys <;> simp [prStep]
   | cons x r =>
    rw [hc] at h5
    simp only [List.length_cons] at h5
    cases hkk : c.keys <;> simp [prStep] <;> omega
  generalize hP : ([99, 115, 107, 105] : List UInt8).foldl (prStep c) ⟨[c.word], c.keys, c.ints⟩ = P at hsim hn
  generalize hG : ([99, 115, 107, 105] : List UInt8).foldl (rawStep c) ⟨c.word, c.keys, c.ints⟩ = G at hsim
  have e1 : prText c = foldI (joinB P.ws) P.ns := by
   unfold prText prWords
   rw [hk, List.foldl_append, hP]
   exact pr_is c _ P hsim.1 hn
  have e2 : rawText c = (allI G.s G.ns).1 := by
   unfold rawText
   rw [hs, List.foldl_append, hG, raw_4a]
  rw [e1, e2, hsim.2.1, hsim.2.2.2]
  rcases allI_spec G.ns G.s with h | h
  ·left; rw [h]
  ·right; left; omega
 ·exact .inr (.inr (.inr h2))
 ·left
  have hsim := sim_fold c l (p := ⟨[c.word], c.keys, c.ints⟩) (g := ⟨c.word, c.keys, c.ints⟩) ⟨by simp, rfl, rfl, rfl⟩ h3
  unfold prText prWords rawText prKinds
  rw [h2, h1, bs_list]
  exact hsim.2.1
/-! ### what is read -/
end Go.V
namespace Go.V
set_option linter.unusedSimpArgs false
set_option linter.unnecessarySimpa false
set_option linter.unusedVariables false
open Go.Lib (decDigits itoa)
/-! ### what is read is printed as it was -/
/-! ### words and their joint -/
/-! ### a blank more -/
end Go.V
namespace Go.V
open Go.Proofs
set_option maxRecDepth 100000
set_option maxHeartbeats 8000000
set_option linter.unusedSimpArgs false
set_option linter.unnecessarySimpa false
set_option linter.unusedVariables false
attribute [local irreducible] rc
def C34 : Contract := fun args hp K => match args, hp with
 | [.sl p 16 .str xs, .sl q 16 .str ys], [] => K (.bool (decide ((xs : List ByteArray) = ys))) []
 | _, _ => False
def C35 : Contract := fun args hp K => match args, hp with
 | [.sl p 8 (.int .i64) xs, .sl q 8 (.int .i64) ys], [] => K (.bool (decide ((xs : List Int) = ys))) []
 | _, _ => False
attribute [local irreducible] C34 C35
def C12 : Contract := fun args hp K => match args, hp with
 | [.agg [.str w, x, .int .u64 c, .int .u64 s, y], .agg [.str w', x', .int .u64 c', .int .u64 s', y']], [] => onL .str 16 x fun k1 => onL (.int .i64) 8 y fun i1 => onL .str 16 x' fun k2 => onL (.int .i64) 8 y' fun i2 => K (.bool (decide (w = w' ∧ c = c' ∧ s = s' ∧ (k1 : List ByteArray) = k2 ∧ (i1 : List Int) = i2))) []
 | _, _ => False
def C13 : Contract := fun args hp K => match args, hp with
 | [.agg [.str w, x, .int .u64 c, .int .u64 s, y]], [] => ((x = .nils ∧ y = .nils) ∨ ∃ k i, x = .sl true 16 .str k ∧ y = .sl true 8 (.int .i64) i) ∧ K (.agg [.str w, x, .int .u64 c, .int .u64 s, y]) []
 | _, _ => False
end Go.V
namespace Go.Proofs
set_option linter.unusedSimpArgs false
set_option linter.unnecessarySimpa false
open Go.Shelf Go.RowKit
set_option linter.unusedVariables false
set_option maxHeartbeats 1000000
set_option maxRecDepth 100000
theorem add243 (b off : Nat) (x n : Int) (w : World) (hc : w.cell? ⟨b, off, none⟩ = some (.int .u64 x)) (hz : w.frozen? ⟨b, off, none⟩ = false) :
  Calls Tryz.prog 243 #[.pointer (some ⟨b, off, none⟩), .int .u64 n] w fun e w' => e = .returned (.int .u64 (IntKind.u64.wrap (x + n))) ∧ w' = w.setCell ⟨b, off, none⟩ (.int .u64 (IntKind.u64.wrap (x + n))) := by
 have hadd := run_call_add (P := Tryz.prog) Tryz.func298 (by kernel_rfl) (by kernel_rfl) (by kernel_rfl) .u64 (by kernel_rfl) hc hz (y := n) (s := IntKind.u64.wrap (x + n)) (by simp [Op.intArith])
 go_enter Tryz.func243, Tryz.ntmps243
 go_wp2
 go_ret
 exact ⟨rfl, rfl⟩
theorem at242 (b : Nat) (w : World) : Calls Tryz.prog 242 #[.pointer (some ⟨b, 0, none⟩), .int .i64 0] w fun e w' => e = .returned (.pointer (some ⟨b, 0, none⟩)) ∧ w' = w := by
 go_enter Tryz.func242, Tryz.ntmps242
 go_wp2
 go_ret
 exact ⟨rfl, rfl⟩
theorem add161 (b : Nat) (x n : Int) (w : World) (hc : w.cell? ⟨b, 0, none⟩ = some (.int .u64 x)) (hz : w.frozen? ⟨b, 0, none⟩ = false) :
  Calls Tryz.prog 161 #[.pointer (some ⟨b, 0, none⟩), .int .i64 0, .int .u64 n] w fun e w' => e = .returned (.int .u64 (IntKind.u64.wrap (x + n))) ∧ w' = w.setCell ⟨b, 0, none⟩ (.int .u64 (IntKind.u64.wrap (x + n))) := by
 have h1 := at242 b w
 have h2 := add243 b 0 x n w hc hz
 go_enter Tryz.func161, Tryz.ntmps161
 go_wp2_with (first | (go_at_call 242; refine h1.mono ?_; rintro e w' ⟨rfl, rfl⟩) | (go_at_call 243; refine h2.mono ?_; rintro e w' ⟨rfl, rfl⟩))
 go_ret
 exact ⟨rfl, rfl⟩
end Go.Proofs
