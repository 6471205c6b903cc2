/- A part of the proof layer, or functions of the given program in it: contracts and their proofs. -/
import Derived.Test.YtkjecjgfkogkoaaP2
import Derived.Test.YtkjecjgfkogkoaaO2
namespace Go.V
open Go.Proofs
set_option maxRecDepth 100000
set_option linter.unusedSimpArgs false
set_option linter.unnecessarySimpa false
set_option linter.unusedVariables false

/-- All -/
def A16 (o : ByteArray) (l : List OutT.den) (m : List (ByteArray × Int)) : LoopAnn := {
  G := Nat
  I := fun i => ⟨[(3, .own 3), (11, .own 1), (12, .int .i64 l.length), (13, .int .i64 i)], [.struct [.str o, .own 1, .mp 2], .row false 72 OutT l, .map false .str (.int .u64) m, .row true 72 OutT (l.take i)]⟩
  R := fun _ i => i ≤ l.length
  μ := fun i => l.length - i }
theorem I16 (o l m) (i : Nat) : (A16 o l m).I i = ⟨[(3, .own 3), (11, .own 1), (12, .int .i64 l.length), (13, .int .i64 i)], [.struct [.str o, .own 1, .mp 2], .row false 72 OutT l, .map false .str (.int .u64) m, .row true 72 OutT (l.take i)]⟩ := rfl

def C16 : Contract := fun args hp K => match args with
  | [.ptr 0 0] => onOb hp fun o l m => o ≠ ByteArray.empty ∧ K (.own 3) (hp ++ [.row true 72 OutT l])
  | _ => False
theorem s16 : Sound Try.prog 16 C16 := by
  refine sound_of_okF ok16 (Γ := [(27, C27), (35, C35)]) (.cons s27 (callable_of_okF ok27) (.cons s35 (callable_of_okF ok35) .nil)) ?_
  intro args hp K h
  unfold C16 at h
  split at h
  · obtain ⟨o, l, m, rfl, h0, h⟩ := h
    refine ⟨by simp, [(1, A16 o l m)], ?_⟩
    unfold obH at h ⊢
    simp (maxSteps := 2000000) only [a16, r16, C27, go_sem, eq_self, and_self, Int.natCast_pos, Int.le_refl, Nat.le_refl, Int.natCast_nonneg, Int.ofNat_lt, Int.ofNat_le, Int.reduceLT, Int.reduceLE, Int.reduceEq, Int.reduceNe, Int.reduceAdd, Int.reduceSub, Int.reduceMul, Int.reduceToNat, Int.reduceNeg, Nat.reduceEqDiff, Nat.reduceLeDiff, Nat.reduceSub, Nat.reduceMul, Nat.reduceLT, Nat.reduceBEq, Nat.reduceAdd]
    refine sw_intro (fun h => absurd (by simpa using h) h0) (fun _ => ?_)
    intro hl1 hl2 n hn
    refine loop_intro (A := A16 o l m) (0 : Nat) ?_ (Nat.zero_le _) ?_
    · subst hn
      simp (maxSteps := 2000000) only [I16, go_sem, eq_self, and_self, Int.natCast_pos, Int.le_refl, Nat.le_refl, Int.natCast_nonneg, Int.ofNat_lt, Int.ofNat_le, Int.reduceLT, Int.reduceLE, Int.reduceEq, Int.reduceNe, Int.reduceAdd, Int.reduceSub, Int.reduceMul, Int.reduceToNat, Int.reduceNeg, Nat.reduceEqDiff, Nat.reduceLeDiff, Nat.reduceSub, Nat.reduceMul, Nat.reduceLT, Nat.reduceBEq, Nat.reduceAdd]
      rfl
    · intro (i : Nat) (hi : i ≤ l.length)
      simp (maxSteps := 2000000) only [I16, C35, go_sem, eq_self, and_self, Int.natCast_pos, Int.le_refl, Nat.le_refl, Int.natCast_nonneg, Int.ofNat_lt, Int.ofNat_le, Int.reduceLT, Int.reduceLE, Int.reduceEq, Int.reduceNe, Int.reduceAdd, Int.reduceSub, Int.reduceMul, Int.reduceToNat, Int.reduceNeg, Nat.reduceEqDiff, Nat.reduceLeDiff, Nat.reduceSub, Nat.reduceMul, Nat.reduceLT, Nat.reduceBEq, Nat.reduceAdd]
      rintro c rfl
      refine sw_intro (fun hc => ?_) (fun hc => ?_)
      · have hlt : i < l.length := by simp at hc; exact hc
        refine nd_intro hlt ⟨fun _ => ?_, ?_⟩
        · rw [List.length_take]; omega
        · rintro _ _ _ i' hi'
          rw [w64 (by have := maxLen_val; omega)] at hi'
          subst hi'
          refine lpE_intro (A := A16 o l m) (i + 1 : Nat) ?_ hlt ?_
          · simp (maxSteps := 2000000) only [I16, go_sem, eq_self, and_self, Int.natCast_pos, Int.le_refl, Nat.le_refl, Int.natCast_nonneg, Int.ofNat_lt, Int.ofNat_le, Int.reduceLT, Int.reduceLE, Int.reduceEq, Int.reduceNe, Int.reduceAdd, Int.reduceSub, Int.reduceMul, Int.reduceToNat, Int.reduceNeg, Nat.reduceEqDiff, Nat.reduceLeDiff, Nat.reduceSub, Nat.reduceMul, Nat.reduceLT, Nat.reduceBEq, Nat.reduceAdd]
            have e := take_eltO hlt
            rw [e]
            rfl
          · show l.length - (i + 1) < l.length - i
            omega
      · have : i = l.length := by simp at hc; omega
        subst this
        rw [List.take_length]
        exact h
  · exact h.elim

def C5 : Contract := fun args hp K => match args, hp with
  | [x, .int .u64 p], [] => 0 ≤ p ∧ p ≤ 18446744073709551615 ∧ (∃ xs, x = .sl true 1 .byte xs) ∧ K (.bool true) []
  | _, _ => False
/-- The law on serials, in its loop. -/
structure G5 where
  i : Nat
  l : List OutT.den
  m : List (ByteArray × Int)
  last : List Int
def ky (k : Nat) : ByteArray := ⟨#[UInt8.ofNat (97 + k)]⟩
def cntP (last : List Int) : Nat := (last.filter (fun n => decide (0 < n))).length
def A5 (x : SV) (p : Int) (n : Nat) : LoopAnn := {
  G := G5
  I := fun g => ⟨[(0, x), (1, .int .u64 p), (5, .ptr 0 0), (7, .ptr 3 0), (26, .int .i64 n), (27, .int .i64 g.i)],
    [.struct [.str me, .own 1, .mp 2], .row true 72 OutT g.l, .map false .str (.int .u64) g.m, .struct [.arr 5 (.int .u64) g.last]]⟩
  R := fun _ g => g.i ≤ n ∧ g.l.length ≤ 32 ∧ g.last.length = 5 ∧ g.m.length = cntP g.last ∧ ∀ k, k < 5 → 0 ≤ g.last.getD k 0 ∧ g.last.getD k 0 ≤ g.i ∧ lookM .str (.int .u64) g.m (ky k) = if 0 < g.last.getD k 0 then some (g.last.getD k 0) else none
  μ := fun g => n - g.i }
theorem I5 (x p n) (g : G5) : (A5 x p n).I g = ⟨[(0, x), (1, .int .u64 p), (5, .ptr 0 0), (7, .ptr 3 0), (26, .int .i64 n), (27, .int .i64 g.i)],
    [.struct [.str me, .own 1, .mp 2], .row true 72 OutT g.l, .map false .str (.int .u64) g.m, .struct [.arr 5 (.int .u64) g.last]]⟩ := rfl
/-- .. in its last loop. -/
def B5 : LoopAnn := {
  G := G5
  I := fun g => ⟨[(5, .ptr 0 0), (7, .ptr 3 0), (86, .int .i64 g.i)],
    [.struct [.str me, .own 1, .mp 2], .row true 72 OutT g.l, .map false .str (.int .u64) g.m, .struct [.arr 5 (.int .u64) g.last]]⟩
  R := fun g0 g => g.i ≤ 5 ∧ g.l = g0.l ∧ g.m = g0.m ∧ g.last = g0.last
  μ := fun g => 5 - g.i }
theorem J5 (g : G5) : B5.I g = ⟨[(5, .ptr 0 0), (7, .ptr 3 0), (86, .int .i64 g.i)],
    [.struct [.str me, .own 1, .mp 2], .row true 72 OutT g.l, .map false .str (.int .u64) g.m, .struct [.arr 5 (.int .u64) g.last]]⟩ := rfl

theorem ky_inj {i j : Nat} (hi : i < 5) (hj : j < 5) : ky i = ky j ↔ i = j := by
  constructor
  · intro h
    have h1 : (#[UInt8.ofNat (97 + i)] : Array UInt8) = #[UInt8.ofNat (97 + j)] := congrArg ByteArray.data h
    simp only [Array.mk.injEq, List.cons.injEq, and_true] at h1
    have := (ofNat_inj (by omega) (by omega)).1 h1
    omega
  · intro h; rw [h]
theorem keyOk1 (a : UInt8) : keyOk ⟨#[a]⟩ = true := by
  unfold keyOk
  have : (⟨#[a]⟩ : ByteArray) ≠ ByteArray.empty := by
    intro h
    have h1 : (⟨#[a]⟩ : ByteArray).size = ByteArray.empty.size := by rw [h]
    simp [ByteArray.size] at h1
  simp [this, ByteArray.size]
theorem cntP_le (l : List Int) : cntP l ≤ l.length := List.length_filter_le _ _
theorem cntP_set : ∀ (l : List Int) (k : Nat) (v : Int), k < l.length → 0 < v → cntP (l.set k v) = if 0 < l.getD k 0 then cntP l else cntP l + 1
  | [], k, v, h, _ => by simp at h
  | x :: l, 0, v, _, hv => by
    simp only [List.set_cons_zero, cntP, List.filter_cons, hv, decide_true, if_true, List.length_cons, List.getD_cons_zero]
    by_cases hx : 0 < x <;> simp [hx]
  | x :: l, k + 1, v, h, hv => by
    have ih := cntP_set l k v (by simpa using h) hv
    simp only [List.set_cons_succ, List.getD_cons_succ]
    unfold cntP at ih ⊢
    simp only [List.filter_cons]
    by_cases hx : 0 < x
    · simp only [hx, decide_true, if_true, List.length_cons, ih]; split <;> omega
    · simp only [hx, decide_false, Bool.false_eq_true, if_false, ih]

def R5 (g : G5) : Prop := g.l.length ≤ 32 ∧ g.last.length = 5 ∧ g.m.length = cntP g.last ∧ ∀ k, k < 5 → 0 ≤ g.last.getD k 0 ∧ g.last.getD k 0 ≤ g.i ∧ lookM .str (.int .u64) g.m (ky k) = if 0 < g.last.getD k 0 then some (g.last.getD k 0) else none
theorem R5_same {g : G5} (h : R5 g) {l : List OutT.den} (hl : l.length ≤ 32) : R5 ⟨g.i + 1, l, g.m, g.last⟩ := by
  obtain ⟨h1, h2, h3, h4⟩ := h
  refine ⟨hl, h2, h3, fun k hk => ?_⟩
  obtain ⟨a, b, c⟩ := h4 k hk
  refine ⟨a, ?_, c⟩
  show g.last.getD k 0 ≤ ((g.i + 1 : Nat) : Int)
  omega
theorem R5_ok {g : G5} (h : R5 g) {l : List OutT.den} (hl : l.length ≤ 32) {k : Nat} (hk : k < 5) {s : Int} (hs : s = g.last.getD k 0 + 1) : R5 ⟨g.i + 1, l, updM .str (.int .u64) g.m (ky k) s, g.last.set k s⟩ := by
  obtain ⟨h1, h2, h3, h4⟩ := h
  obtain ⟨a, b, c⟩ := h4 k hk
  refine ⟨hl, by simpa using h2, ?_, fun j hj => ?_⟩
  · show (updM .str (.int .u64) g.m (ky k) s).length = cntP (g.last.set k s)
    rw [cntP_set _ _ _ (by omega) (by omega)]
    by_cases hx : 0 < g.last.getD k 0
    · rw [if_pos hx] at c ⊢
      rw [updM_length_old (vt := .int .u64) (by rw [c]; simp)]; exact h3
    · rw [if_neg hx] at c ⊢
      rw [updM_length_new (vt := .int .u64) c]; omega
  · obtain ⟨a', b', c'⟩ := h4 j hj
    show 0 ≤ (g.last.set k s).getD j 0 ∧ (g.last.set k s).getD j 0 ≤ ((g.i + 1 : Nat) : Int) ∧ lookM .str (.int .u64) (updM .str (.int .u64) g.m (ky k) s) (ky j) = if 0 < (g.last.set k s).getD j 0 then some ((g.last.set k s).getD j 0) else none
    by_cases hjk : j = k
    · subst hjk
      have e : (g.last.set j s).getD j 0 = s := by simp [List.getD_eq_getElem?_getD, show j < g.last.length by omega]
      rw [e, lookM_upd_self (vt := .int .u64), if_pos (by omega)]
      exact ⟨by omega, by omega, rfl⟩
    · have e : (g.last.set k s).getD j 0 = g.last.getD j 0 := by simp [List.getD_eq_getElem?_getD, List.getElem?_set_ne (Ne.symm hjk)]
      rw [e, lookM_upd_ne (vt := .int .u64) _ _ (fun h => hjk ((ky_inj hj hk).1 h)), c']
      exact ⟨a', by omega, rfl⟩

theorem lp5 (x : SV) (xs : List UInt8) (p : Int) (n : Nat) (hx : x = .sl true 1 .byte xs) (g0 g : G5) (i' : Int) (l : List OutT.den) (M : List (ByteArray × Int)) (last : List Int) (rest : List SB) (h1 : i' = g.i + 1) (h2 : g.i < n) (h3 : R5 ⟨g.i + 1, l, M, last⟩) :
    lpE (A5 x p n) 0 [0, 1, 5, 7, 26, 27] g0 g ⟨[(0, x), (1, .int .u64 p), (5, .ptr 0 0), (7, .ptr 3 0), (26, .int .i64 n), (27, .int .i64 i')],
      .struct [.str me, .own 1, .mp 2] :: .row true 72 OutT l :: .map false .str (.int .u64) M :: .struct [.arr 5 (.int .u64) last] :: rest⟩ := by
  subst hx
  refine lpE_intro (A := A5 _ p n) (⟨g.i + 1, l, M, last⟩ : G5) ?_ ⟨h2, h3⟩ ?_
  · subst h1
    simp (maxSteps := 2000000) only [I5, go_sem, eq_self, and_self, Int.natCast_pos, Int.le_refl, Nat.le_refl, Int.natCast_nonneg, Int.ofNat_lt, Int.ofNat_le, Int.reduceLT, Int.reduceLE, Int.reduceEq, Int.reduceNe, Int.reduceAdd, Int.reduceSub, Int.reduceMul, Int.reduceToNat, Int.reduceNeg, Nat.reduceEqDiff, Nat.reduceLeDiff, Nat.reduceSub, Nat.reduceMul, Nat.reduceLT, Nat.reduceBEq, Nat.reduceAdd]
    rfl
  · show n - (g.i + 1) < n - g.i
    omega

theorem lq5 (g0 g : G5) (i' : Int) (rest : List SB) (h1 : i' = g.i + 1) (h2 : g.i < 5) (h3 : B5.R g0 g) :
    lpE B5 0 [5, 7, 86] g0 g ⟨[(5, .ptr 0 0), (7, .ptr 3 0), (86, .int .i64 i')],
      .struct [.str me, .own 1, .mp 2] :: .row true 72 OutT g.l :: .map false .str (.int .u64) g.m :: .struct [.arr 5 (.int .u64) g.last] :: rest⟩ := by
  refine lpE_intro (A := B5) (⟨g.i + 1, g.l, g.m, g.last⟩ : G5) ?_ ⟨h2, h3.2⟩ ?_
  · subst h1
    simp (maxSteps := 2000000) only [J5, go_sem, eq_self, and_self, Int.natCast_pos, Int.le_refl, Nat.le_refl, Int.natCast_nonneg, Int.ofNat_lt, Int.ofNat_le, Int.reduceLT, Int.reduceLE, Int.reduceEq, Int.reduceNe, Int.reduceAdd, Int.reduceSub, Int.reduceMul, Int.reduceToNat, Int.reduceNeg, Nat.reduceEqDiff, Nat.reduceLeDiff, Nat.reduceSub, Nat.reduceMul, Nat.reduceLT, Nat.reduceBEq, Nat.reduceAdd]
    rfl
  · show 5 - (g.i + 1) < 5 - g.i
    omega

theorem s5 : Sound Try.prog 5 C5 := by
  refine sound_of_okF ok5 (Γ := [(9, C9), (10, C10), (11, C11), (12, C12), (16, C16), (17, C17)]) (.cons s9 (callable_of_okF ok9) (.cons s10 (callable_of_okF ok10) (.cons s11 (callable_of_okF ok11) (.cons s12 (callable_of_okF ok12) (.cons s16 (callable_of_okF ok16) (.cons s17 (callable_of_okF ok17) .nil)))))) ?_
  intro args hp K h
  unfold C5 at h
  split at h
  · rename_i x p
    obtain ⟨hp0, hp1, ⟨xs, rfl⟩, h⟩ := h
    refine ⟨by simp, [(1, A5 (.sl true 1 .byte xs) p xs.length), (2, B5)], ?_⟩
    have k1 : keyOk me = true := by decide
    simp (maxSteps := 2000000) only [a5, r5, C9, C10, C16, C17, obH, go_sem, eq_self, and_self, Int.natCast_pos, Int.le_refl, Nat.le_refl, Int.natCast_nonneg, Int.ofNat_lt, Int.ofNat_le, Int.reduceLT, Int.reduceLE, Int.reduceEq, Int.reduceNe, Int.reduceAdd, Int.reduceSub, Int.reduceMul, Int.reduceToNat, Int.reduceNeg, Nat.reduceEqDiff, Nat.reduceLeDiff, Nat.reduceSub, Nat.reduceMul, Nat.reduceLT, Nat.reduceBEq, Nat.reduceAdd]
    intro hl1 hl2 n hn c hc
    refine sw_intro (fun _ => h) (fun hc1 => ⟨fun _ => ?_, fun hk => by rw [show (⟨#[109, 101]⟩ : ByteArray) = me from rfl, k1] at hk; cases hk⟩)
    have h100 : xs.length ≤ 100 := by simp [hc] at hc1; omega
    subst hn
    intro _ _ n hn
    subst hn
    refine loop_intro (A := A5 (.sl true 1 .byte xs) p xs.length) (⟨0, [], [], [0, 0, 0, 0, 0]⟩ : G5) ?_ ?_ ?_
    · simp (maxSteps := 2000000) only [I5, go_sem, eq_self, and_self, Int.natCast_pos, Int.le_refl, Nat.le_refl, Int.natCast_nonneg, Int.ofNat_lt, Int.ofNat_le, Int.reduceLT, Int.reduceLE, Int.reduceEq, Int.reduceNe, Int.reduceAdd, Int.reduceSub, Int.reduceMul, Int.reduceToNat, Int.reduceNeg, Nat.reduceEqDiff, Nat.reduceLeDiff, Nat.reduceSub, Nat.reduceMul, Nat.reduceLT, Nat.reduceBEq, Nat.reduceAdd]
      rfl
    · refine ⟨Nat.zero_le _, by simp, rfl, rfl, fun k hk => ?_⟩
      have : k = 0 ∨ k = 1 ∨ k = 2 ∨ k = 3 ∨ k = 4 := by omega
      rcases this with rfl | rfl | rfl | rfl | rfl <;> simp [lookM]
    · intro (g : G5) hg
      simp (maxSteps := 2000000) only [I5, C11, C12, C16, C17, obH, go_sem, eq_self, and_self, Int.natCast_pos, Int.le_refl, Nat.le_refl, Int.natCast_nonneg, Int.ofNat_lt, Int.ofNat_le, Int.reduceLT, Int.reduceLE, Int.reduceEq, Int.reduceNe, Int.reduceAdd, Int.reduceSub, Int.reduceMul, Int.reduceToNat, Int.reduceNeg, Nat.reduceEqDiff, Nat.reduceLeDiff, Nat.reduceSub, Nat.reduceMul, Nat.reduceLT, Nat.reduceBEq, Nat.reduceAdd]
      obtain ⟨hgi, hR⟩ := hg
      change g.i ≤ xs.length at hgi
      change R5 g at hR
      have hR' := hR
      obtain ⟨hgl, hg5, hgm, hgk⟩ := hR'
      have kne : me ≠ ByteArray.empty := by decide
      have hc5 : g.m.length ≤ 5 := by have := cntP_le g.last; omega
      rintro c rfl
      refine sw_intro (fun hc => ?_) (fun hc => ?_)
      · have hlt : g.i < xs.length := by simp at hc; exact hc
        refine nd_intro hlt ?_
        intro _ _ q hq _ q1 hq1 _ _ w hw _ w1 hw1
        generalize hxx : elt .byte xs g.i = x at hq
        refine ⟨?_, ?_⟩
        · have : 0 ≤ w := by rw [hw, Int.tmod_eq_emod_of_nonneg (by omega)]; omega
          have : w < 64 := by rw [hw, Int.tmod_eq_emod_of_nonneg (by omega)]; omega
          rw [hw1, wu64 (by omega)]; omega
        · obtain ⟨k, hk5, hk⟩ : ∃ k : Nat, k < 5 ∧ q1 = k := by
            have h0 : q = (UInt8.toNat x : Int) % 5 := by rw [hq, Int.tmod_eq_emod_of_nonneg (by omega)]
            rw [w64 (by omega)] at hq1
            exact ⟨q.toNat, by omega, by omega⟩
          clear hq1
          subst hk
          obtain ⟨hx0, hxi, hlk⟩ := hgk k hk5
          rintro _ _ _ _ _ _ _ _ _ _ _
          refine sw_intro (fun _ => ⟨kne, fun hl => ?_, fun y r hl => ?_⟩) (fun _ => ?_)
          rotate_left
          · have hrl : g.l.length = r.length + 1 := by rw [hl]; rfl
            intro _ _ m hm _ m1 hm1 u hu
            rw [w64 (by omega)] at hm
            rw [wu8 (by omega)] at hm1
            have hm2 : m1.toNat = 97 + k := by omega
            rw [hm2] at hu
            have hu' : u = ky k := hu
            clear hu hm2
            subst hu'
            refine ⟨kne, by have := maxLen_val; omega, by omega, fun h => absurd (keyOk1 _) h, fun _ hf => ⟨kne, fun _ _ n hn c hc => ?_⟩, fun _ hr s hs => ?_⟩
            · have : c = false := by
                rcases hf with hf | ⟨_, hf⟩
                · subst hc
                  have : n = 32 := by omega
                  simp [this]
                · omega
              subst this
              exact fun _ _ m hm => lp5 _ xs p _ rfl _ g _ _ _ _ _ (by rw [w64 (by omega)] at hm; exact hm) hlt (R5_same hR (by omega))
            · have hs1 : s = g.last.getD k 0 + 1 := by
                rw [hlk] at hs
                by_cases h0 : 0 < g.last.getD k 0
                · rw [if_pos h0] at hs
                  rw [hs]; exact wu64 (by simp only [Option.getD_some]; omega)
                · rw [if_neg h0] at hs
                  rw [hs, show g.last.getD k 0 = 0 by omega]; rfl
              simp only [Int.toNat_natCast]
              refine nd_intro (by omega) (nd_intro (by omega) ?_)
              intro _ _ y hy
              refine nd_intro (by omega) (nd_intro (by omega) (nd_intro (by omega) (nd_intro (by omega) ?_)))
              intro c hc
              have hx' : elt (.int .u64) g.last k = g.last.getD k 0 := rfl
              rw [hx', wu64 (by omega)] at hy
              have hz' : elt (.int .u64) (g.last.set k y) k = y := elt_eq (by simp [show k < g.last.length by omega])
              have : c = false := by
                rw [hc, Bool.not_eq_false', decide_eq_true_eq]
                exact (hs1.trans hy.symm).trans hz'.symm
              subst this
              intro _ _ m hm
              have hys : y = s := by rw [hy, hs1]
              subst hys
              exact lp5 _ xs p _ rfl _ g _ _ _ _ _ (by rw [w64 (by omega)] at hm; exact hm) hlt (R5_ok hR (by simp only [List.length_append, List.length_cons, List.length_nil]; omega) hk5 hs1)
          · intro _ _ m hm _ m1 hm1 u hu
            rw [w64 (by omega)] at hm
            rw [wu8 (by omega)] at hm1
            have hm2 : m1.toNat = 97 + k := by omega
            rw [hm2] at hu
            have hu' : u = ky k := hu
            clear hu hm2
            subst hu'
            refine ⟨kne, by have := maxLen_val; omega, by omega, fun h => absurd (keyOk1 _) h, fun _ hf => ⟨kne, fun _ _ n hn c hc => ?_⟩, fun _ hr s hs => ?_⟩
            · have : c = false := by
                rcases hf with hf | ⟨_, hf⟩
                · subst hc
                  have : n = 32 := by omega
                  simp [this]
                · omega
              subst this
              exact fun _ _ m hm => lp5 _ xs p _ rfl _ g _ _ _ _ _ (by rw [w64 (by omega)] at hm; exact hm) hlt (R5_same hR (by omega))
            · have hs1 : s = g.last.getD k 0 + 1 := by
                rw [hlk] at hs
                by_cases h0 : 0 < g.last.getD k 0
                · rw [if_pos h0] at hs
                  rw [hs]; exact wu64 (by simp only [Option.getD_some]; omega)
                · rw [if_neg h0] at hs
                  rw [hs, show g.last.getD k 0 = 0 by omega]; rfl
              simp only [Int.toNat_natCast]
              refine nd_intro (by omega) (nd_intro (by omega) ?_)
              intro _ _ y hy
              refine nd_intro (by omega) (nd_intro (by omega) (nd_intro (by omega) (nd_intro (by omega) ?_)))
              intro c hc
              have hx' : elt (.int .u64) g.last k = g.last.getD k 0 := rfl
              rw [hx', wu64 (by omega)] at hy
              have hz' : elt (.int .u64) (g.last.set k y) k = y := elt_eq (by simp [show k < g.last.length by omega])
              have : c = false := by
                rw [hc, Bool.not_eq_false', decide_eq_true_eq]
                exact (hs1.trans hy.symm).trans hz'.symm
              subst this
              intro _ _ m hm
              have hys : y = s := by rw [hy, hs1]
              subst hys
              exact lp5 _ xs p _ rfl _ g _ _ _ _ _ (by rw [w64 (by omega)] at hm; exact hm) hlt (R5_ok hR (by simp only [List.length_append, List.length_cons, List.length_nil]; omega) hk5 hs1)
          · intro _ _ m hm _ m1 hm1 u hu
            rw [w64 (by omega)] at hm
            rw [wu8 (by omega)] at hm1
            have hm2 : m1.toNat = 97 + k := by omega
            rw [hm2] at hu
            have hu' : u = ky k := hu
            clear hu hm2
            subst hu'
            refine ⟨kne, by have := maxLen_val; omega, by omega, fun h => absurd (keyOk1 _) h, fun _ hf => ⟨kne, fun _ _ n hn c hc => ?_⟩, fun _ hr s hs => ?_⟩
            · have : c = false := by
                rcases hf with hf | ⟨_, hf⟩
                · subst hc
                  have : n = 32 := by omega
                  simp [this]
                · omega
              subst this
              exact fun _ _ m hm => lp5 _ xs p _ rfl _ g _ _ _ _ _ (by rw [w64 (by omega)] at hm; exact hm) hlt (R5_same hR (by omega))
            · have hs1 : s = g.last.getD k 0 + 1 := by
                rw [hlk] at hs
                by_cases h0 : 0 < g.last.getD k 0
                · rw [if_pos h0] at hs
                  rw [hs]; exact wu64 (by simp only [Option.getD_some]; omega)
                · rw [if_neg h0] at hs
                  rw [hs, show g.last.getD k 0 = 0 by omega]; rfl
              simp only [Int.toNat_natCast]
              refine nd_intro (by omega) (nd_intro (by omega) ?_)
              intro _ _ y hy
              refine nd_intro (by omega) (nd_intro (by omega) (nd_intro (by omega) (nd_intro (by omega) ?_)))
              intro c hc
              have hx' : elt (.int .u64) g.last k = g.last.getD k 0 := rfl
              rw [hx', wu64 (by omega)] at hy
              have hz' : elt (.int .u64) (g.last.set k y) k = y := elt_eq (by simp [show k < g.last.length by omega])
              have : c = false := by
                rw [hc, Bool.not_eq_false', decide_eq_true_eq]
                exact (hs1.trans hy.symm).trans hz'.symm
              subst this
              intro _ _ m hm
              have hys : y = s := by rw [hy, hs1]
              subst hys
              exact lp5 _ xs p _ rfl _ g _ _ _ _ _ (by rw [w64 (by omega)] at hm; exact hm) hlt (R5_ok hR (by simp only [List.length_append, List.length_cons, List.length_nil]; omega) hk5 hs1)
      · have hie : g.i = xs.length := by simp at hc; omega
        refine loop_intro (A := B5) (⟨0, g.l, g.m, g.last⟩ : G5) ?_ ⟨Nat.zero_le _, rfl, rfl, rfl⟩ ?_
        · simp (maxSteps := 2000000) only [J5, go_sem, eq_self, and_self, Int.natCast_pos, Int.le_refl, Nat.le_refl, Int.natCast_nonneg, Int.ofNat_lt, Int.ofNat_le, Int.reduceLT, Int.reduceLE, Int.reduceEq, Int.reduceNe, Int.reduceAdd, Int.reduceSub, Int.reduceMul, Int.reduceToNat, Int.reduceNeg, Nat.reduceEqDiff, Nat.reduceLeDiff, Nat.reduceSub, Nat.reduceMul, Nat.reduceLT, Nat.reduceBEq, Nat.reduceAdd]
          rfl
        · rintro (b : G5) ⟨hb1, hb2, hb3, hb4⟩
          change b.l = g.l at hb2
          change b.m = g.m at hb3
          change b.last = g.last at hb4
          obtain ⟨i, l, m, last⟩ := b
          simp only at hb1 hb2 hb3 hb4
          subst hb2 hb3 hb4
          simp (maxSteps := 2000000) only [J5, C17, obH, go_sem, eq_self, and_self, Int.natCast_pos, Int.le_refl, Nat.le_refl, Int.natCast_nonneg, Int.ofNat_lt, Int.ofNat_le, Int.reduceLT, Int.reduceLE, Int.reduceEq, Int.reduceNe, Int.reduceAdd, Int.reduceSub, Int.reduceMul, Int.reduceToNat, Int.reduceNeg, Nat.reduceEqDiff, Nat.reduceLeDiff, Nat.reduceSub, Nat.reduceMul, Nat.reduceLT, Nat.reduceBEq, Nat.reduceAdd]
          rintro c rfl
          refine sw_intro (fun hc => ?_) (fun _ => h)
          have hi5 : i < 5 := by simp at hc; omega
          obtain ⟨hx0, hxi, hlk⟩ := hgk i hi5
          intro _ _ m hm _ m1 hm1
          rw [w64 (by omega)] at hm
          rw [wu8 (by omega)] at hm1
          refine nd_intro hi5 (fun u hu => ⟨kne, hi5, fun c hc => ?_⟩)
          have hm2 : m1.toNat = 97 + i := by omega
          rw [hm2] at hu
          have hu' : u = ky i := hu
          subst hu'
          have : c = false := by
            rw [hc, hlk, show elt (.int .u64) g.last i = g.last.getD i 0 from rfl]
            by_cases h0 : 0 < g.last.getD i 0
            · rw [if_pos h0]; simp
            · rw [if_neg h0, show g.last.getD i 0 = 0 by omega]; simp
          subst this
          intro _ _ i' hi'
          rw [w64 (by omega)] at hi'
          exact lq5 _ (⟨i, g.l, g.m, g.last⟩ : G5) _ _ hi' hi5 ⟨hb1, rfl, rfl, rfl⟩
  · exact h.elim
end Go.V
