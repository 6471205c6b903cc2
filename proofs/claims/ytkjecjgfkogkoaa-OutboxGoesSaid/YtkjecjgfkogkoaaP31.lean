/- A part of the proof layer, or functions of the given program in it: contracts and their proofs. -/
import Derived.Test.YtkjecjgfkogkoaaP30
namespace Go.V
open Go.Proofs
set_option maxRecDepth 100000
set_option linter.unusedSimpArgs false
set_option linter.unnecessarySimpa false
set_option linter.unusedVariables false

structure G15 where
  i : Nat
  l : List OutT.den
  m : List (ByteArray × Int)
  ls : List LastT.den
def A15 (o : ByteArray) (B : Int) (sc : List OpT.den) : LoopAnn := {
  G := G15
  I := fun g => ⟨[(0, .ptr 0 0), (1, .ptr 3 0), (2, .sl true 56 OpT sc), (18, .int .i64 sc.length), (19, .int .i64 g.i)], boH true o g.l g.m o g.l g.ls⟩
  R := fun _ g => g.i ≤ sc.length ∧ Inv o g.l g.ls (B + g.i) ∧ Rel g.m g.ls
  μ := fun g => sc.length - g.i }
theorem I15 (o B sc) (g : G15) : (A15 o B sc).I g = ⟨[(0, .ptr 0 0), (1, .ptr 3 0), (2, .sl true 56 OpT sc), (18, .int .i64 sc.length), (19, .int .i64 g.i)],
  [.struct [.str o, .own 1, .mp 2], .row true 72 OutT g.l, .map false .str (.int .u64) g.m, .struct [.str o, .own 4, .own 5], .row true 72 OutT g.l, .row true 24 LastT g.ls]⟩ := rfl
theorem lp15 (o : ByteArray) (B : Int) (sc : List OpT.den) (g0 g : G15) (i' : Int) (l : List OutT.den) (m : List (ByteArray × Int)) (ls : List LastT.den) (rest : List SB) (h1 : i' = g.i + 1) (h2 : g.i < sc.length) (h3 : Inv o l ls (B + (g.i + 1 : Nat))) (h5 : Rel m ls) :
    lpE (A15 o B sc) 6 [0, 1, 2, 18, 19] g0 g ⟨[(0, .ptr 0 0), (1, .ptr 3 0), (2, .sl true 56 OpT sc), (18, .int .i64 sc.length), (19, .int .i64 i')],
      .struct [.str o, .own 1, .mp 2] :: .row true 72 OutT l :: .map false .str (.int .u64) m :: .struct [.str o, .own 4, .own 5] :: .row true 72 OutT l :: .row true 24 LastT ls :: rest⟩ := by
  refine lpE_intro (A := A15 o B sc) (⟨g.i + 1, l, m, ls⟩ : G15) ?_ ⟨h2, h3, h5⟩ ?_
  · subst h1
    simp (maxSteps := 2000000) only [I15, go_sem, eq_self, and_self, Int.natCast_pos, Int.le_refl, Nat.le_refl, Int.natCast_nonneg, Int.ofNat_lt, Int.ofNat_le, Int.reduceLT, Int.reduceLE, Int.reduceEq, Int.reduceNe, Int.reduceAdd, Int.reduceSub, Int.reduceMul, Int.reduceToNat, Int.reduceNeg, Nat.reduceEqDiff, Nat.reduceLeDiff, Nat.reduceSub, Nat.reduceMul, Nat.reduceLT, Nat.reduceBEq, Nat.reduceAdd]
    rfl
  · show sc.length - (g.i + 1) < sc.length - g.i
    omega

/-- play: what is kept -/
def C15 : Contract := fun args hp K => match args with
  | [.ptr 0 0, .ptr 3 0, x] => onBo hp fun o l m o' l' ls => o = o' ∧ l = l' ∧ (∃ sc, x = .sl true 56 OpT sc) ∧ (∃ B : Int, 0 ≤ B ∧ B ≤ 1000000000000000 ∧ Inv o l ls B ∧ Rel m ls ∧
      ∀ (l : List OutT.den) (m : List (ByteArray × Int)) (ls : List LastT.den), Inv o l ls (B + 140737488355328) → Rel m ls → K (.bool true) (boH true o l m o l ls))
  | _ => False
theorem s15 : Sound Try.prog 15 C15 := by
  refine sound_of_okF ok15 (Γ := [(12, C12), (30, C30), (11, C11), (31, C31), (33, C33), (32, C32), (25, C25), (17, C17), (34, C34)])
    (.cons s12 (callable_of_okF ok12) (.cons s30 (callable_of_okF ok30) (.cons s11 (callable_of_okF ok11) (.cons s31 (callable_of_okF ok31) (.cons s33 (callable_of_okF ok33) (.cons s32 (callable_of_okF ok32) (.cons s25 (callable_of_okF ok25) (.cons s17 (callable_of_okF ok17) (.cons s34 (callable_of_okF ok34) .nil))))))))) ?_
  intro args hp K h
  unfold C15 at h
  split at h
  · obtain ⟨o, l, m, _, _, ls, rfl, rfl, rfl, ⟨sc, rfl⟩, B, hB0, hB1, hI, hr, h⟩ := h
    have h0 := keyOk_ne hI.ko
    refine ⟨by simp, [(1, A15 o B sc)], ?_⟩
    unfold boH at h ⊢
    simp (maxSteps := 2000000) only [a15, r15, go_sem, eq_self, and_self, Int.natCast_pos, Int.le_refl, Nat.le_refl, Int.natCast_nonneg, Int.ofNat_lt, Int.ofNat_le, Int.reduceLT, Int.reduceLE, Int.reduceEq, Int.reduceNe, Int.reduceAdd, Int.reduceSub, Int.reduceMul, Int.reduceToNat, Int.reduceNeg, Nat.reduceEqDiff, Nat.reduceLeDiff, Nat.reduceSub, Nat.reduceMul, Nat.reduceLT, Nat.reduceBEq, Nat.reduceAdd]
    rintro hs1 hs2 n rfl
    refine loop_intro (A := A15 o B sc) (⟨0, l, m, ls⟩ : G15) ?_ ⟨Nat.zero_le _, hI.mono (by simp), hr⟩ ?_
    · simp (maxSteps := 2000000) only [I15, go_sem, eq_self, and_self, Int.natCast_pos, Int.le_refl, Nat.le_refl, Int.natCast_nonneg, Int.ofNat_lt, Int.ofNat_le, Int.reduceLT, Int.reduceLE, Int.reduceEq, Int.reduceNe, Int.reduceAdd, Int.reduceSub, Int.reduceMul, Int.reduceToNat, Int.reduceNeg, Nat.reduceEqDiff, Nat.reduceLeDiff, Nat.reduceSub, Nat.reduceMul, Nat.reduceLT, Nat.reduceBEq, Nat.reduceAdd]
      rfl
    · rintro (⟨i, l, m, ls⟩ : G15) ⟨hi, hgI, hgr⟩
      change i ≤ sc.length at hi
      change Inv o l ls (B + i) at hgI
      have hgl := hgI.l32
      have hgls := hgI.m64
      have hnx : Inv o l ls (B + (i + 1 : Nat)) := hgI.mono (by omega)
      change Rel m ls at hgr
      simp (maxSteps := 2000000) only [I15, go_sem, eq_self, and_self, Int.natCast_pos, Int.le_refl, Nat.le_refl, Int.natCast_nonneg, Int.ofNat_lt, Int.ofNat_le, Int.reduceLT, Int.reduceLE, Int.reduceEq, Int.reduceNe, Int.reduceAdd, Int.reduceSub, Int.reduceMul, Int.reduceToNat, Int.reduceNeg, Nat.reduceEqDiff, Nat.reduceLeDiff, Nat.reduceSub, Nat.reduceMul, Nat.reduceLT, Nat.reduceBEq, Nat.reduceAdd]
      rintro c rfl
      refine sw_intro (fun hc => ?_) (fun _ => h _ _ _ (hgI.mono (by omega)) hgr)
      have hlt : i < sc.length := by simpa using hc
      refine nd_intro hlt ?_
      generalize elt OpT sc i = x
      obtain ⟨kind, to, nn, xs⟩ := x
      have hr' := hgr.2
      have hlen := hgr.1
      have hM := maxLen_val
      have nx : ∀ n : Int, n = IntKind.i64.wrap (↑i + 1) → n = i + 1 := fun n hn => by rw [w64 (by omega)] at hn; exact hn
      simp (maxSteps := 2000000) only [C12, C30, C11, C31, C33, C32, C25, C17, C34, obH, rfH, go_sem, eq_self, and_self, Int.natCast_pos, Int.le_refl, Nat.le_refl, Int.natCast_nonneg, Int.ofNat_lt, Int.ofNat_le, Int.reduceLT, Int.reduceLE, Int.reduceEq, Int.reduceNe, Int.reduceAdd, Int.reduceSub, Int.reduceMul, Int.reduceToNat, Int.reduceNeg, Nat.reduceEqDiff, Nat.reduceLeDiff, Nat.reduceSub, Nat.reduceMul, Nat.reduceLT, Nat.reduceBEq, Nat.reduceAdd]
      rintro c rfl
      refine sw_intro (fun _ => ⟨h0, by omega, by omega, fun hk => ⟨by omega, by omega, fun _ => ?_, fun hk' => absurd hk' hk, fun hk' => absurd hk' hk⟩, fun hk hf => ⟨by omega, by omega, fun hk' => absurd hk hk', fun _ _ => ?_, fun _ hf' => ?_⟩, fun hk hf s hs => ⟨by omega, by omega, fun hk' => absurd hk hk', fun _ hf' => ?_, fun _ _ s' hs' => ?_⟩⟩) (fun _ => ?_)
      · refine ⟨h0, hr', h0, fun c hc => ?_⟩
        obtain rfl : c = false := by rw [hc, hr']; simp
        exact fun _ _ n hn => lp15 o B sc _ (⟨i, l, m, ls⟩ : G15) _ _ _ _ _ (nx n hn) hlt hnx hgr
      · refine ⟨h0, hr', h0, fun c hc => ?_⟩
        obtain rfl : c = false := by rw [hc, hr']; simp
        exact fun _ _ n hn => lp15 o B sc _ (⟨i, l, m, ls⟩ : G15) _ _ _ _ _ (nx n hn) hlt hnx hgr
      · exfalso
        apply hf'
        rw [hr' to, hlen] at hf
        exact hf
      · exfalso
        apply hf
        rw [hr' to, hlen]
        exact hf'
      · have hss : s' = s := by rw [hs, hs', hr' to]
        subst hss
        intro c hc
        obtain rfl : c = false := by rw [hc]; simp
        have hl32 : l.length < 32 := by
          rcases Nat.lt_or_ge l.length 32 with h | h
          · exact h
          · exact absurd (.inl h) hf
        have hls' : (setF ls to s').length ≤ 64 := by
          rw [setF_eq, setR_length]
          split
          · rename_i hn
            rcases Nat.lt_or_ge ls.length 64 with h | h
            · omega
            · exact absurd (.inr ⟨by rw [hr', thereL_eq]; exact hn, by omega⟩) hf
          · exact hgls
        have hR := hgr.set to s'
        refine ⟨rfl, h0, hR.2, h0, fun c hc => ?_⟩
        obtain rfl : c = false := by rw [hc, hR.2]; simp
        exact fun _ _ n hn => lp15 o B sc _ (⟨i, l, m, ls⟩ : G15) _ _ _ _ _ (nx n hn) hlt (by have := hgI.send (by omega) (by omega) hk.1 hk.2 hl32 hls' nn hs'; exact this.mono (by show B + (i : Int) + 1 ≤ B + ((i + 1 : Nat) : Int); omega)) hR
      · rintro c rfl
        refine sw_intro (fun _ => ⟨h0, fun hl => ⟨fun _ => ?_, fun x r hl' => ?_⟩, fun x r hl => ⟨fun hl' => ?_, fun x' r' hl' => ?_⟩⟩) (fun _ => ?_)
        · subst hl
          repeat' first
            | exact h0
            | exact rfl
            | exact hr'
            | exact Or.inl trivial
            | exact .inr ⟨_, rfl⟩
            | refine ⟨false, false, _, rfl, rfl, ?_⟩
            | refine And.intro ?_ ?_
            | (intro c hc
               obtain rfl : c = false := by rw [hc, hr']; simp
               exact fun _ _ n hn => lp15 o B sc _ (⟨i, [], m, ls⟩ : G15) _ _ _ _ _ (nx n hn) hlt hnx hgr)
        · rw [hl] at hl'; cases hl'
        · rw [hl] at hl'; cases hl'
        · subst hl
          cases hl'
          have hrl : r.length ≤ 32 := by simp at hgl; omega
          repeat' first
            | exact h0
            | exact rfl
            | exact hr'
            | exact Or.inl trivial
            | exact .inr ⟨_, rfl⟩
            | refine ⟨false, false, _, rfl, rfl, ?_⟩
            | refine And.intro ?_ ?_
            | (intro c hc
               obtain rfl : c = false := by rw [hc, hr']; simp
               exact fun _ _ n hn => lp15 o B sc _ (⟨i, x :: r, m, ls⟩ : G15) _ _ _ _ _ (nx n hn) hlt hnx.pop hgr)
        · refine ⟨h0, hr', h0, fun c hc => ?_⟩
          obtain rfl : c = false := by rw [hc, hr']; simp
          exact fun _ _ n hn => lp15 o B sc _ (⟨i, l, m, ls⟩ : G15) _ _ _ _ _ (nx n hn) hlt hnx hgr
  · exact h.elim

end Go.V
