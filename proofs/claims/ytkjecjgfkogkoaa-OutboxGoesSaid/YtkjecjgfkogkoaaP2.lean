/- A part of the proof layer, or functions of the given program in it: contracts and their proofs. -/
import Derived.Test.YtkjecjgfkogkoaaP1
namespace Go.V
open Go.Proofs
set_option maxRecDepth 100000
set_option linter.unusedSimpArgs false
set_option linter.unnecessarySimpa false
set_option linter.unusedVariables false

/-- awake -/
def C9 : Contract := fun args hp K => match args, hp with
  | [], [] => K (.bool true) []
  | _, _ => False
theorem s9 : Sound Try.prog 9 C9 := by
  refine sound_of_okF ok9 (Γ := [(10, C10), (12, C12), (19, C19)]) (.cons s10 (callable_of_okF ok10) (.cons s12 (callable_of_okF ok12) (.cons s19 (callable_of_okF ok19) .nil))) ?_
  intro args hp K h
  unfold C9 at h
  split at h
  · refine ⟨by simp, [], ?_⟩
    simp (maxSteps := 2000000) only [a9, r9, C10, C12, C19, obH, go_sem, eq_self, and_self, Int.natCast_pos, Int.le_refl, Nat.le_refl, Int.natCast_nonneg, Int.ofNat_lt, Int.ofNat_le, Int.reduceLT, Int.reduceLE, Int.reduceEq, Int.reduceNe, Int.reduceAdd, Int.reduceSub, Int.reduceMul, Int.reduceToNat, Int.reduceNeg, Nat.reduceEqDiff, Nat.reduceLeDiff, Nat.reduceSub, Nat.reduceMul, Nat.reduceLT, Nat.reduceBEq, Nat.reduceAdd]
    have k1 : keyOk ⟨#[97]⟩ = true := by decide
    have k2 : keyOk ⟨#[98]⟩ = true := by decide
    have k3 : (⟨#[97]⟩ : ByteArray) ≠ ByteArray.empty := by decide
    have k4 : IntKind.u64.wrap 1 = 1 := by decide
    simp [k1, k2, k3, k4, v_swT, v_swF, lookM, maxLen]
    exact h
  · exact h.elim

/-- The serials behind i letters to i keys. -/
def key2 (j : Nat) : ByteArray := ⟨#[107, UInt8.ofNat j]⟩
def keysM (n : Nat) : List (ByteArray × Int) := (List.range n).map fun j => (key2 j, (1 : Int))

structure G3 where
  i : Nat
  l : List OutT.den

def me : ByteArray := ⟨#[109, 101]⟩

def A3 (n : Int) (lim : Nat) : LoopAnn := {
  G := G3
  I := fun g => ⟨[(0, .int .u8 n), (3, .ptr 0 0), (18, .int .i64 lim), (19, .int .i64 g.i)], obH true me g.l (keysM (min g.i 64))⟩
  R := fun _ g => g.i ≤ lim ∧ g.l.length ≤ 1
  μ := fun g => lim - g.i }
def L3 (n : Int) (lim : Nat) : List (Nat × LoopAnn) := [(1, A3 n lim)]
theorem I3 (n : Int) (lim : Nat) (g : G3) : (A3 n lim).I g = ⟨[(0, .int .u8 n), (3, .ptr 0 0), (18, .int .i64 lim), (19, .int .i64 g.i)], [.struct [.str me, .own 1, .mp 2], .row true 72 OutT g.l, .map false .str (.int .u64) (keysM (min g.i 64))]⟩ := rfl
theorem lk3 (n : Int) (lim : Nat) : lkA (L3 n lim) 1 = some (A3 n lim) := rfl

theorem keysM_length (k : Nat) : (keysM k).length = k := by simp [keysM]
theorem ofNat_inj {i j : Nat} (hi : i < 256) (hj : j < 256) : UInt8.ofNat i = UInt8.ofNat j ↔ i = j := by
  constructor
  · intro h
    have := congrArg UInt8.toNat h
    simp at this
    omega
  · intro h; rw [h]
theorem key2_inj {i j : Nat} (hi : i < 256) (hj : j < 256) : key2 i = key2 j ↔ i = j := by
  constructor
  · intro h
    have h1 : (#[107, UInt8.ofNat i] : Array UInt8) = #[107, UInt8.ofNat j] := congrArg ByteArray.data h
    simp only [Array.mk.injEq, List.cons.injEq, and_true, true_and] at h1
    exact (ofNat_inj hi hj).1 h1
  · intro h; rw [h]
theorem keyOk2 (a b : UInt8) : keyOk ⟨#[a, b]⟩ = true := by
  unfold keyOk
  have : (⟨#[a, b]⟩ : ByteArray) ≠ ByteArray.empty := by
    intro h
    have h1 : (⟨#[a, b]⟩ : ByteArray).size = ByteArray.empty.size := by rw [h]
    simp [ByteArray.size] at h1
  simp [this, ByteArray.size]

theorem lookM_keys (k j : Nat) (hk : k ≤ 64) (hj : j < 256) : lookM .str (.int .u64) (keysM k) (key2 j) = if j < k then some 1 else none := by
  induction k with
  | zero => simp [keysM, lookM]
  | succ k ih =>
    have ih := ih (by omega)
    have e : keysM (k + 1) = keysM k ++ [(key2 k, 1)] := by simp [keysM, List.range_succ]
    rw [e]
    unfold lookM at ih ⊢
    rw [List.find?_append]
    by_cases h : j < k
    · rw [if_pos h] at ih
      rw [if_pos (by omega)]
      cases hf : (keysM k).find? fun e => Ty.beq .str e.1 (key2 j) with
      | none => rw [hf] at ih; cases ih
      | some x => rw [hf] at ih; simpa using ih
    · rw [if_neg h] at ih
      have hf : (keysM k).find? (fun e => Ty.beq .str e.1 (key2 j)) = none := by
        cases hf : (keysM k).find? fun e => Ty.beq .str e.1 (key2 j) with
        | none => rfl
        | some x => rw [hf] at ih; cases ih
      rw [hf]
      simp only [Option.none_or, List.find?_cons, beq_str, List.find?_nil]
      by_cases h2 : j = k
      · subst h2; simp
      · have : ¬ key2 k = key2 j := fun e => h2 ((key2_inj (by omega) hj).1 e).symm
        simp [this]; omega

theorem updM_keys (i : Nat) (hi : i < 64) : updM .str (.int .u64) (keysM i) (key2 i) 1 = keysM (i + 1) := by
  rw [updM_new (by rw [lookM_keys i i (by omega) (by omega)]; simp)]
  simp [keysM, List.range_succ]

theorem lp3 (n : Int) (lim : Nat) (g0 g : G3) (i' : Int) (l : List OutT.den) (M : List (ByteArray × Int)) (rest : List SB) (h1 : i' = g.i + 1) (h2 : g.i < lim) (h3 : l.length ≤ 1) (h4 : M = keysM (min (g.i + 1) 64)) :
    lpE (A3 n lim) 0 [0, 3, 18, 19] g0 g ⟨[(0, .int .u8 n), (3, .ptr 0 0), (18, .int .i64 lim), (19, .int .i64 i')],
      .struct [.str me, .own 1, .mp 2] :: .row true 72 OutT l :: .map false .str (.int .u64) M :: rest⟩ := by
  refine lpE_intro (A := A3 n lim) (⟨g.i + 1, l⟩ : G3) ?_ ⟨h2, h3⟩ ?_
  · subst h1 h4
    simp (maxSteps := 2000000) only [I3, go_sem, eq_self, and_self, Int.natCast_pos, Int.le_refl, Nat.le_refl, Int.natCast_nonneg, Int.ofNat_lt, Int.ofNat_le, Int.reduceLT, Int.reduceLE, Int.reduceEq, Int.reduceNe, Int.reduceAdd, Int.reduceSub, Int.reduceMul, Int.reduceToNat, Int.reduceNeg, Nat.reduceEqDiff, Nat.reduceLeDiff, Nat.reduceSub, Nat.reduceMul, Nat.reduceLT, Nat.reduceBEq, Nat.reduceAdd]
    rfl
  · show lim - (g.i + 1) < lim - g.i
    omega

def C3 : Contract := fun args hp K => match args, hp with
  | [.int .u8 n], [] => 0 ≤ n ∧ n < 256 ∧ K (.bool true) []
  | _, _ => False
theorem s3 : Sound Try.prog 3 C3 := by
  refine sound_of_okF ok3 (Γ := [(9, C9), (10, C10), (11, C11), (12, C12)]) (.cons s9 (callable_of_okF ok9) (.cons s10 (callable_of_okF ok10) (.cons s11 (callable_of_okF ok11) (.cons s12 (callable_of_okF ok12) .nil)))) ?_
  intro args hp K h
  unfold C3 at h
  split at h
  · rename_i n
    obtain ⟨hn0, hn1, h⟩ := h
    refine ⟨by simp, L3 n (n.tmod 80).toNat, ?_⟩
    have k1 : keyOk me = true := by decide
    simp (maxSteps := 2000000) only [a3, r3, C9, C10, C11, C12, obH, lk3, go_sem, eq_self, and_self, Int.natCast_pos, Int.le_refl, Nat.le_refl, Int.natCast_nonneg, Int.ofNat_lt, Int.ofNat_le, Int.reduceLT, Int.reduceLE, Int.reduceEq, Int.reduceNe, Int.reduceAdd, Int.reduceSub, Int.reduceMul, Int.reduceToNat, Int.reduceNeg, Nat.reduceEqDiff, Nat.reduceLeDiff, Nat.reduceSub, Nat.reduceMul, Nat.reduceLT, Nat.reduceBEq, Nat.reduceAdd]
    refine ⟨fun _ _ _ m hm _ m1 hm1 => ?_, fun h => absurd (k1.symm.trans h) (by decide)⟩
    refine loop_intro (A := A3 n (n.tmod 80).toNat) (⟨0, []⟩ : G3) ?_ ?_ ?_
    · simp (maxSteps := 2000000) only [I3, go_sem, eq_self, and_self, Int.natCast_pos, Int.le_refl, Nat.le_refl, Int.natCast_nonneg, Int.ofNat_lt, Int.ofNat_le, Int.reduceLT, Int.reduceLE, Int.reduceEq, Int.reduceNe, Int.reduceAdd, Int.reduceSub, Int.reduceMul, Int.reduceToNat, Int.reduceNeg, Nat.reduceEqDiff, Nat.reduceLeDiff, Nat.reduceSub, Nat.reduceMul, Nat.reduceLT, Nat.reduceBEq, Nat.reduceAdd]
      have e : m1 = ((n.tmod 80).toNat : Int) := by
        have h1 : n.tmod 80 = n % 80 := Int.tmod_eq_emod_of_nonneg hn0
        rw [hm1, hm, h1]
        have h2 : 0 ≤ n % 80 ∧ n % 80 < 80 := by omega
        generalize n % 80 = q at h2
        rw [wrap_in (by simp [inR, IntKind.min, IntKind.max, IntKind.signed, IntKind.bits]; omega)]
        omega
      rw [e]
      rfl
    · simp [A3]
    · intro (g : G3) (hg : g.i ≤ (n.tmod 80).toNat ∧ g.l.length ≤ 1)
      simp (maxSteps := 2000000) only [I3, obH, C11, C12, go_sem, eq_self, and_self, Int.natCast_pos, Int.le_refl, Nat.le_refl, Int.natCast_nonneg, Int.ofNat_lt, Int.ofNat_le, Int.reduceLT, Int.reduceLE, Int.reduceEq, Int.reduceNe, Int.reduceAdd, Int.reduceSub, Int.reduceMul, Int.reduceToNat, Int.reduceNeg, Nat.reduceEqDiff, Nat.reduceLeDiff, Nat.reduceSub, Nat.reduceMul, Nat.reduceLT, Nat.reduceBEq, Nat.reduceAdd]
      have hlim : (n.tmod 80).toNat < 80 := by
        rw [Int.tmod_eq_emod_of_nonneg hn0]; omega
      have kne : me ≠ ByteArray.empty := by decide
      have hb : (keysM (min g.i 64)).length < maxLen := by rw [keysM_length]; simp [maxLen]; omega
      rintro c rfl
      refine sw_intro (fun hc => ?_) (fun hc => ?_)
      · have hlt : g.i < (n.tmod 80).toNat := by simp at hc; omega
        have step : ∀ (l : List OutT.den) (rest : List SB), l.length = 0 → ∀ m : Int, m = IntKind.u8.wrap ↑g.i → ∀ u : ByteArray, u = ⟨#[UInt8.ofNat 107, UInt8.ofNat m.toNat]⟩ → u = key2 g.i := by
          intro l rest _ m hm u hu
          rw [wrap_in (by simp [inR, IntKind.min, IntKind.max, IntKind.signed, IntKind.bits]; omega)] at hm
          subst hm
          rw [hu]; rfl
        have nxt : ∀ m1 : Int, m1 = IntKind.i64.wrap (↑g.i + 1) → m1 = g.i + 1 := by
          intro m1 h
          rw [wrap_in (by simp [inR, IntKind.min, IntKind.max, IntKind.signed, IntKind.bits]; omega)] at h
          exact h
        have full : ∀ (l : List OutT.den), l.length = 0 → (32 ≤ l.length ∨ lookM .str (.int .u64) (keysM (min g.i 64)) (key2 g.i) = none ∧ 64 ≤ (keysM (min g.i 64)).length) → 64 ≤ g.i := by
          rintro l hl (h | ⟨_, h⟩)
          · omega
          · rw [keysM_length] at h; omega
        have room : ∀ (l : List OutT.den), ¬ (32 ≤ l.length ∨ lookM .str (.int .u64) (keysM (min g.i 64)) (key2 g.i) = none ∧ 64 ≤ (keysM (min g.i 64)).length) → g.i < 64 := by
          intro l h
          rw [lookM_keys _ _ (by omega) (by omega), keysM_length] at h
          by_cases h' : g.i < 64
          · exact h'
          · exfalso; apply h; right
            exact ⟨by rw [if_neg (by omega)], by omega⟩
        refine ⟨kne, fun hl _ m hm u hu => ?_, fun x r hl _ m hm u hu => ?_⟩
        · have hl0 : g.l.length = 0 := by rw [hl]; rfl
          have hu' := step g.l [] hl0 m hm u hu
          subst hu'
          refine ⟨kne, hb, by omega, fun h => absurd (keyOk2 _ _) h, fun _ hf c hc1 c1 hc2 => ?_, fun _ hr s hs c hc1 c1 hc2 => ?_⟩
          · have h64 := full _ hl0 hf
            have : c1 = false := by simp [hc2, hc1]; omega
            subst this
            exact fun _ _ m1 hm1 => lp3 n _ _ g _ _ _ _ (nxt m1 hm1) hlt (by omega) (by rw [Nat.min_eq_right h64, Nat.min_eq_right (by omega)])
          · have h64 := room _ hr
            have : c1 = false := by simp [hc2, hc1]; omega
            subst this
            rw [Nat.min_eq_left (by omega), lookM_keys _ _ (by omega) (by omega), if_neg (by omega)] at hs
            have hs1 : s = 1 := hs.trans (by decide)
            subst hs1
            rintro c rfl
            refine sw_intro (fun h => by simp at h) (fun _ => fun _ _ m1 hm1 => ?_)
            exact lp3 n _ _ g _ _ _ _ (nxt m1 hm1) hlt (by rw [List.length_append, hl0]; simp) (by rw [Nat.min_eq_left (by omega), Nat.min_eq_left (by omega), updM_keys _ h64])
        · have hl0 : r.length = 0 := by have := hg.2; rw [hl] at this; simp at this; simp [this]
          have hu' := step r [] hl0 m hm u hu
          subst hu'
          refine ⟨kne, hb, by omega, fun h => absurd (keyOk2 _ _) h, fun _ hf c hc1 c1 hc2 => ?_, fun _ hr s hs c hc1 c1 hc2 => ?_⟩
          · have h64 := full _ hl0 hf
            have : c1 = false := by simp [hc2, hc1]; omega
            subst this
            exact fun _ _ m1 hm1 => lp3 n _ _ g _ _ _ _ (nxt m1 hm1) hlt (by omega) (by rw [Nat.min_eq_right h64, Nat.min_eq_right (by omega)])
          · have h64 := room _ hr
            have : c1 = false := by simp [hc2, hc1]; omega
            subst this
            rw [Nat.min_eq_left (by omega), lookM_keys _ _ (by omega) (by omega), if_neg (by omega)] at hs
            have hs1 : s = 1 := hs.trans (by decide)
            subst hs1
            rintro c rfl
            refine sw_intro (fun h => by simp at h) (fun _ => fun _ _ m1 hm1 => ?_)
            exact lp3 n _ _ g _ _ _ _ (nxt m1 hm1) hlt (by rw [List.length_append, hl0]; simp) (by rw [Nat.min_eq_left (by omega), Nat.min_eq_left (by omega), updM_keys _ h64])
      · have hge : g.i = (n.tmod 80).toNat := by simp at hc; omega
        intro _ _ m hm c hc2
        subst hc2
        refine sw_intro (fun _ => h) (fun hm0 => ?_)
        have hi : 0 < g.i := by
          have : 0 ≤ n.tmod 80 := by rw [Int.tmod_eq_emod_of_nonneg hn0]; omega
          simp at hm0; omega
        have kn : ∀ (l : List OutT.den), l.length ≤ 1 → ¬ (32 ≤ l.length ∨ lookM .str (.int .u64) (keysM (min g.i 64)) (key2 0) = none ∧ 64 ≤ (keysM (min g.i 64)).length) := by
          rintro l hl (h | ⟨h, _⟩)
          · omega
          · rw [lookM_keys _ _ (by omega) (by omega), if_pos (by omega)] at h; cases h
        have s2 : ∀ s : Int, s = IntKind.u64.wrap ((lookM .str (.int .u64) (keysM (min g.i 64)) (key2 0)).getD (0 : Int) + 1) → s = 2 := by
          intro s hs
          rw [lookM_keys _ _ (by omega) (by omega), if_pos (by omega)] at hs
          exact hs.trans (by decide)
        refine ⟨kne, fun hl u hu => ?_, fun x r hl u hu => ?_⟩
        · have hu' : u = key2 0 := hu
          subst hu'
          refine ⟨kne, hb, by omega, fun h => absurd (keyOk2 _ _) h, fun _ hf => absurd hf (kn _ hg.2), fun _ _ s hs c hc => ?_⟩
          have := s2 s hs
          subst this
          subst hc
          exact h
        · have hl1 : r.length ≤ 1 := by have := hg.2; rw [hl] at this; simp at this; simp [this]
          have hu' : u = key2 0 := hu
          subst hu'
          refine ⟨kne, hb, by omega, fun h => absurd (keyOk2 _ _) h, fun _ hf => absurd hf (kn _ hl1), fun _ _ s hs c hc => ?_⟩
          have := s2 s hs
          subst this
          subst hc
          exact h
  · exact h.elim
end Go.V
