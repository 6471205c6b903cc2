/- A part of the proof layer, or functions of the given program in it: contracts and their proofs. -/
import Derived.Test.YtkjecjgfkogkoaaP4
namespace Go.V
open Go.Proofs
set_option maxRecDepth 100000
set_option linter.unusedSimpArgs false
set_option linter.unnecessarySimpa false
set_option linter.unusedVariables false

abbrev LastT : Ty := .pair .str (.int .u64)
/-- The document's outbox. -/
def rfH (m1 m2 : Bool) (o : ByteArray) (L : List OutT.den) (ls : List LastT.den) : List SB :=
  [.struct [.str o, .own 1, .own 2], .row m1 72 OutT L, .row m2 24 LastT ls]
def onRf (hp : List SB) (k : ByteArray → List OutT.den → List LastT.den → Prop) : Prop := ∃ o L ls, hp = rfH false false o L ls ∧ k o L ls
@[go_sem] theorem onRf_eq {o L ls k} : onRf [.struct [.str o, .own 1, .own 2], .row false 72 (.pair .str (.pair .str (.pair (.int .u64) (.pair (.int .i64) (.sl 8 (.int .i64)))))) L, .row false 24 (.pair .str (.int .u64)) ls] k = k o L ls := by
  apply propext; constructor
  · rintro ⟨o', l', m', h, hk⟩
    unfold rfH at h
    cases h
    exact hk
  · exact fun h => ⟨o, L, ls, rfl, h⟩

def placeF (ls : List LastT.den) (to : ByteArray) : Nat := (ls.takeWhile fun x => ltS x.1 to).length
def thereL (ls : List LastT.den) (to : ByteArray) : Option Int :=
  match ls[placeF ls to]? with
  | some x => if x.1 = to then some x.2 else none
  | none => none
def setF (ls : List LastT.den) (to : ByteArray) (s : Int) : List LastT.den :=
  if (thereL ls to).isSome then ls.set (placeF ls to) (to, s) else ls.take (placeF ls to) ++ ((to, s) :: ls.drop (placeF ls to))

theorem placeF_le (ls : List LastT.den) (to : ByteArray) : placeF ls to ≤ ls.length := (List.takeWhile_sublist _).length_le
theorem placeF_eq {to : ByteArray} : ∀ {ls : List LastT.den} {n : Nat}, (∀ j x, j < n → ls[j]? = some x → ltS x.1 to = true) → n ≤ ls.length → (∀ x, ls[n]? = some x → ltS x.1 to = false) → placeF ls to = n
  | [], n, _, h, _ => by simp at h; subst h; rfl
  | y :: ls, 0, _, _, h => by
    have := h y rfl
    simp [placeF, this]
  | y :: ls, n + 1, h1, h2, h3 => by
    have hy := h1 0 y (by omega) rfl
    have := placeF_eq (ls := ls) (n := n) (fun j x hj hx => h1 (j + 1) x (by omega) (by simpa using hx)) (by simpa using h2) (fun x hx => h3 x (by simpa using hx))
    unfold placeF at this ⊢
    rw [List.takeWhile_cons, if_pos hy, List.length_cons, this]

/-- Key -/
def C29 : Contract := fun args hp K => match args, hp with
  | [.str s], [] => K (.bool (keyOk s)) []
  | _, _ => False
theorem keyOk_eq (s : ByteArray) : keyOk s = (decide (1 ≤ s.size) && decide (s.size ≤ 40)) := by
  unfold keyOk
  congr 1
  apply decide_eq_decide.2
  constructor
  · intro h
    rcases Nat.eq_zero_or_pos s.size with h0 | h0
    · exfalso; apply h
      have : s.data = #[] := Array.eq_empty_of_size_eq_zero h0
      cases s; simp at this; subst this; rfl
    · exact h0
  · rintro h rfl
    have h' : 1 ≤ 0 := h
    omega
theorem s29 : Sound Try.prog 29 C29 := by
  refine sound_of_okF ok29 (Γ := []) .nil ?_
  intro args hp K h
  unfold C29 at h
  split at h
  · rename_i s
    refine ⟨by simp, [], ?_⟩
    simp (maxSteps := 2000000) only [a29, r29, go_sem, eq_self, and_self, Int.natCast_pos, Int.le_refl, Nat.le_refl, Int.natCast_nonneg, Int.ofNat_lt, Int.ofNat_le, Int.reduceLT, Int.reduceLE, Int.reduceEq, Int.reduceNe, Int.reduceAdd, Int.reduceSub, Int.reduceMul, Int.reduceToNat, Int.reduceNeg, Nat.reduceEqDiff, Nat.reduceLeDiff, Nat.reduceSub, Nat.reduceMul, Nat.reduceLT, Nat.reduceBEq, Nat.reduceAdd]
    intro _ n hn c hc
    refine sw_intro (fun hc1 => ?_) (fun hc1 => ?_)
    · intro _ m hm c' hc'
      have h1 : 1 ≤ s.size := by simp [hc1, hn] at hc; omega
      have e : keyOk s = c' := by rw [keyOk_eq, hc', hm]; simp [h1]; omega
      rw [← e]; exact h
    · have e : keyOk s = false := by
        have h1 : ¬ 1 ≤ s.size := by simp [hc1, hn] at hc; omega
        rw [keyOk_eq]; simp [h1]
      rw [← e]; exact h
  · exact h.elim

/-- New -/
def C14 : Contract := fun args hp K => match args, hp with
  | [.str s], [] => (keyOk s = true → K (.tup [.ptr 0 0, .int .i64 0]) (rfH true true s [] [])) ∧ (keyOk s = false → K (.tup [.nilp, .int .i64 1]) [])
  | _, _ => False
theorem s14 : Sound Try.prog 14 C14 := by
  refine sound_of_okF ok14 (Γ := [(29, C29)]) (.cons s29 (callable_of_okF ok29) .nil) ?_
  intro args hp K h
  unfold C14 at h
  split at h
  · rename_i s
    refine ⟨by simp, [], ?_⟩
    simp (maxSteps := 2000000) only [a14, r14, C29, go_sem, eq_self, and_self, Int.natCast_pos, Int.le_refl, Nat.le_refl, Int.natCast_nonneg, Int.ofNat_lt, Int.ofNat_le, Int.reduceLT, Int.reduceLE, Int.reduceEq, Int.reduceNe, Int.reduceAdd, Int.reduceSub, Int.reduceMul, Int.reduceToNat, Int.reduceNeg, Nat.reduceEqDiff, Nat.reduceLeDiff, Nat.reduceSub, Nat.reduceMul, Nat.reduceLT, Nat.reduceBEq, Nat.reduceAdd]
    exact sw_intro h.1 h.2
  · exact h.elim

/-- Copy -/
def C62 : Contract := fun args hp K => match args, hp with
  | [.agg [.str f, .int .u64 s, .int .i64 k, x]], [] => onL (.int .i64) 8 x fun xs => K (.agg [.str f, .int .u64 s, .int .i64 k, .own 0]) [.row true 8 (.int .i64) xs]
  | _, _ => False
theorem s62 : Sound Try.prog 62 C62 := by
  refine sound_of_okF ok62 (Γ := []) .nil ?_
  intro args hp K h
  unfold C62 at h
  split at h
  · refine ⟨by simp, [], ?_⟩
    rcases h with ⟨rfl, h⟩ | ⟨p, xs, rfl, h⟩
    · simp (maxSteps := 2000000) only [a62, r62, go_sem, eq_self, and_self, Int.natCast_pos, Int.le_refl, Nat.le_refl, Int.natCast_nonneg, Int.ofNat_lt, Int.ofNat_le, Int.reduceLT, Int.reduceLE, Int.reduceEq, Int.reduceNe, Int.reduceAdd, Int.reduceSub, Int.reduceMul, Int.reduceToNat, Int.reduceNeg, Nat.reduceEqDiff, Nat.reduceLeDiff, Nat.reduceSub, Nat.reduceMul, Nat.reduceLT, Nat.reduceBEq, Nat.reduceAdd]
      exact h
    · simp (maxSteps := 2000000) only [a62, r62, go_sem, eq_self, and_self, Int.natCast_pos, Int.le_refl, Nat.le_refl, Int.natCast_nonneg, Int.ofNat_lt, Int.ofNat_le, Int.reduceLT, Int.reduceLE, Int.reduceEq, Int.reduceNe, Int.reduceAdd, Int.reduceSub, Int.reduceMul, Int.reduceToNat, Int.reduceNeg, Nat.reduceEqDiff, Nat.reduceLeDiff, Nat.reduceSub, Nat.reduceMul, Nat.reduceLT, Nat.reduceBEq, Nat.reduceAdd]
      exact ⟨id, fun _ => h⟩
  · exact h.elim

/-- place -/
def A63 (o : ByteArray) (L : List OutT.den) (ls : List LastT.den) (to : ByteArray) : LoopAnn := {
  G := Nat
  I := fun n => ⟨[(0, .ptr 0 0), (1, .str to), (5, .int .i64 n)], [.struct [.str o, .own 1, .own 2], .row false 72 OutT L, .row false 24 LastT ls]⟩
  R := fun _ n => n ≤ ls.length ∧ ∀ j x, j < n → ls[j]? = some x → ltS x.1 to = true
  μ := fun n => ls.length - n }
theorem I63 (o L ls to) (n : Nat) : (A63 o L ls to).I n = ⟨[(0, .ptr 0 0), (1, .str to), (5, .int .i64 n)], [.struct [.str o, .own 1, .own 2], .row false 72 OutT L, .row false 24 LastT ls]⟩ := rfl
def C63 : Contract := fun args hp K => match args with
  | [.ptr 0 0, .str to] => onRf hp fun o L ls => K (.int .i64 (placeF ls to)) hp
  | _ => False
theorem s63 : Sound Try.prog 63 C63 := by
  refine sound_of_okF ok63 (Γ := []) .nil ?_
  intro args hp K h
  unfold C63 at h
  split at h
  · rename_i to
    obtain ⟨o, L, ls, rfl, h⟩ := h
    refine ⟨by simp, [(1, A63 o L ls to)], ?_⟩
    unfold rfH at h ⊢
    simp (maxSteps := 2000000) only [a63, r63, go_sem, eq_self, and_self, Int.natCast_pos, Int.le_refl, Nat.le_refl, Int.natCast_nonneg, Int.ofNat_lt, Int.ofNat_le, Int.reduceLT, Int.reduceLE, Int.reduceEq, Int.reduceNe, Int.reduceAdd, Int.reduceSub, Int.reduceMul, Int.reduceToNat, Int.reduceNeg, Nat.reduceEqDiff, Nat.reduceLeDiff, Nat.reduceSub, Nat.reduceMul, Nat.reduceLT, Nat.reduceBEq, Nat.reduceAdd]
    refine loop_intro (A := A63 o L ls to) (0 : Nat) ?_ ⟨Nat.zero_le _, fun j x hj => absurd hj (by omega)⟩ ?_
    · simp (maxSteps := 2000000) only [I63, go_sem, eq_self, and_self, Int.natCast_pos, Int.le_refl, Nat.le_refl, Int.natCast_nonneg, Int.ofNat_lt, Int.ofNat_le, Int.reduceLT, Int.reduceLE, Int.reduceEq, Int.reduceNe, Int.reduceAdd, Int.reduceSub, Int.reduceMul, Int.reduceToNat, Int.reduceNeg, Nat.reduceEqDiff, Nat.reduceLeDiff, Nat.reduceSub, Nat.reduceMul, Nat.reduceLT, Nat.reduceBEq, Nat.reduceAdd]
      rfl
    · rintro (n : Nat) ⟨hn, hlt⟩
      simp (maxSteps := 2000000) only [I63, go_sem, eq_self, and_self, Int.natCast_pos, Int.le_refl, Nat.le_refl, Int.natCast_nonneg, Int.ofNat_lt, Int.ofNat_le, Int.reduceLT, Int.reduceLE, Int.reduceEq, Int.reduceNe, Int.reduceAdd, Int.reduceSub, Int.reduceMul, Int.reduceToNat, Int.reduceNeg, Nat.reduceEqDiff, Nat.reduceLeDiff, Nat.reduceSub, Nat.reduceMul, Nat.reduceLT, Nat.reduceBEq, Nat.reduceAdd]
      rintro hl1 _ m rfl c rfl
      refine sw_intro (fun hc => ?_) (fun hc => ?_)
      · have hlt' : n < ls.length := by simp at hc; omega
        refine nd_intro hlt' ?_
        intro c' hc'
        have hx := elt_get (t := LastT) hlt'
        refine sw_intro (fun hc1 => ?_) (fun hc1 => ?_)
        · intro _ _ m hm
          have := maxLen_val
          rw [w64 (by omega)] at hm
          subst hm
          refine lpE_intro (A := A63 o L ls to) (n + 1 : Nat) ?_ ⟨hlt', fun j y hj hy => ?_⟩ ?_
          · simp (maxSteps := 2000000) only [I63, go_sem, eq_self, and_self, Int.natCast_pos, Int.le_refl, Nat.le_refl, Int.natCast_nonneg, Int.ofNat_lt, Int.ofNat_le, Int.reduceLT, Int.reduceLE, Int.reduceEq, Int.reduceNe, Int.reduceAdd, Int.reduceSub, Int.reduceMul, Int.reduceToNat, Int.reduceNeg, Nat.reduceEqDiff, Nat.reduceLeDiff, Nat.reduceSub, Nat.reduceMul, Nat.reduceLT, Nat.reduceBEq, Nat.reduceAdd]
            rfl
          · by_cases hjn : j < n
            · exact hlt j y hjn hy
            · have : j = n := by omega
              subst this
              rw [hx] at hy; cases hy
              rw [← hc', hc1]
          · show ls.length - (n + 1) < ls.length - n
            omega
        · rw [← placeF_eq hlt hn (fun y hy => by rw [hx] at hy; cases hy; rw [← hc', hc1])]
          exact h
      · have hn' : n = ls.length := by simp at hc; omega
        rw [← placeF_eq hlt hn (fun y hy => by rw [hn'] at hy; simp at hy)]
        exact h
  · exact h.elim

/-- there -/
def C56 : Contract := fun args hp K => match args with
  | [.ptr 0 0, .str to] => onRf hp fun o L ls => K (.bool (thereL ls to).isSome) hp
  | _ => False
theorem s56 : Sound Try.prog 56 C56 := by
  refine sound_of_okF ok56 (Γ := [(63, C63)]) (.cons s63 (callable_of_okF ok63) .nil) ?_
  intro args hp K h
  unfold C56 at h
  split at h
  · rename_i to
    obtain ⟨o, L, ls, rfl, h⟩ := h
    refine ⟨by simp, [], ?_⟩
    unfold rfH at h ⊢
    simp (maxSteps := 2000000) only [a56, r56, C63, go_sem, eq_self, and_self, Int.natCast_pos, Int.le_refl, Nat.le_refl, Int.natCast_nonneg, Int.ofNat_lt, Int.ofNat_le, Int.reduceLT, Int.reduceLE, Int.reduceEq, Int.reduceNe, Int.reduceAdd, Int.reduceSub, Int.reduceMul, Int.reduceToNat, Int.reduceNeg, Nat.reduceEqDiff, Nat.reduceLeDiff, Nat.reduceSub, Nat.reduceMul, Nat.reduceLT, Nat.reduceBEq, Nat.reduceAdd]
    rintro _ _ m rfl c rfl
    refine sw_intro (fun hc => ?_) (fun hc => ?_)
    · have hlt : placeF ls to < ls.length := by simp at hc; omega
      refine nd_intro hlt ?_
      intro c hc
      have e : (thereL ls to).isSome = c := by
        unfold thereL
        rw [elt_get (t := LastT) hlt]
        simp only
        by_cases h : (elt LastT ls (placeF ls to)).1 = to <;> simp [h, hc]
      rw [e] at h; exact h
    · have hge : ls[placeF ls to]? = none := List.getElem?_eq_none (by simp at hc; omega)
      have e : (thereL ls to).isSome = false := by unfold thereL; rw [hge]; rfl
      rw [e] at h; exact h
  · exact h.elim

theorem there_get {ls : List LastT.den} {to : ByteArray} (h : (thereL ls to).isSome = true) : ∃ s : Int, ls[placeF ls to]? = some (to, s) ∧ thereL ls to = some s ∧ placeF ls to < ls.length := by
  unfold thereL at h ⊢
  cases hx : ls[placeF ls to]? with
  | none => rw [hx] at h; cases h
  | some x =>
    rw [hx] at h
    simp only at h ⊢
    by_cases hto : x.1 = to
    · obtain ⟨a, b⟩ := x
      simp only at hto
      subst hto
      exact ⟨b, rfl, by simp, (List.getElem?_eq_some_iff.1 hx).1⟩
    · simp [hto] at h

/-- Serial -/
def C34 : Contract := fun args hp K => match args with
  | [.ptr 0 0, .str to] => onRf hp fun o L ls => K (.int .u64 ((thereL ls to).getD (0 : Int))) hp
  | _ => False
theorem s34 : Sound Try.prog 34 C34 := by
  refine sound_of_okF ok34 (Γ := [(63, C63), (56, C56)]) (.cons s63 (callable_of_okF ok63) (.cons s56 (callable_of_okF ok56) .nil)) ?_
  intro args hp K h
  unfold C34 at h
  split at h
  · rename_i to
    obtain ⟨o, L, ls, rfl, h⟩ := h
    refine ⟨by simp, [], ?_⟩
    unfold rfH at h ⊢
    simp (maxSteps := 2000000) only [a34, r34, C63, C56, go_sem, eq_self, and_self, Int.natCast_pos, Int.le_refl, Nat.le_refl, Int.natCast_nonneg, Int.ofNat_lt, Int.ofNat_le, Int.reduceLT, Int.reduceLE, Int.reduceEq, Int.reduceNe, Int.reduceAdd, Int.reduceSub, Int.reduceMul, Int.reduceToNat, Int.reduceNeg, Nat.reduceEqDiff, Nat.reduceLeDiff, Nat.reduceSub, Nat.reduceMul, Nat.reduceLT, Nat.reduceBEq, Nat.reduceAdd]
    refine sw_intro (fun hc => ?_) (fun hc => ?_)
    · obtain ⟨s, hx, hs, hlt⟩ := there_get hc
      refine nd_intro hlt ?_
      rw [elt_eq (t := LastT) hx]
      rw [hs] at h
      exact h
    · have e : thereL ls to = none := by
        cases h : thereL ls to with
        | none => rfl
        | some x => rw [h] at hc; cases hc
      rw [e] at h
      exact h
  · exact h.elim

/-- Keys -/
def A60 (o : ByteArray) (L : List OutT.den) (ls : List LastT.den) : LoopAnn := {
  G := Nat
  I := fun n => ⟨[(0, .ptr 0 0), (3, .own 3), (9, .int .i64 ls.length), (10, .int .i64 n)], [.struct [.str o, .own 1, .own 2], .row false 72 OutT L, .row false 24 LastT ls, .row true 16 .str ((ls.take n).map fun x => x.1)]⟩
  R := fun _ n => n ≤ ls.length
  μ := fun n => ls.length - n }
theorem I60 (o L ls) (n : Nat) : (A60 o L ls).I n = ⟨[(0, .ptr 0 0), (3, .own 3), (9, .int .i64 ls.length), (10, .int .i64 n)], [.struct [.str o, .own 1, .own 2], .row false 72 OutT L, .row false 24 LastT ls, .row true 16 .str ((ls.take n).map fun x => x.1)]⟩ := rfl
def C60 : Contract := fun args hp K => match args with
  | [.ptr 0 0] => onRf hp fun o L ls => K (.own 3) (hp ++ [.row true 16 .str (ls.map fun x => x.1)])
  | _ => False
theorem s60 : Sound Try.prog 60 C60 := by
  refine sound_of_okF ok60 (Γ := []) .nil ?_
  intro args hp K h
  unfold C60 at h
  split at h
  · obtain ⟨o, L, ls, rfl, h⟩ := h
    refine ⟨by simp, [(1, A60 o L ls)], ?_⟩
    unfold rfH at h ⊢
    simp (maxSteps := 2000000) only [a60, r60, go_sem, eq_self, and_self, Int.natCast_pos, Int.le_refl, Nat.le_refl, Int.natCast_nonneg, Int.ofNat_lt, Int.ofNat_le, Int.reduceLT, Int.reduceLE, Int.reduceEq, Int.reduceNe, Int.reduceAdd, Int.reduceSub, Int.reduceMul, Int.reduceToNat, Int.reduceNeg, Nat.reduceEqDiff, Nat.reduceLeDiff, Nat.reduceSub, Nat.reduceMul, Nat.reduceLT, Nat.reduceBEq, Nat.reduceAdd]
    rintro hl1 hl2 m rfl
    refine loop_intro (A := A60 o L ls) (0 : Nat) ?_ (Nat.zero_le _) ?_
    · simp (maxSteps := 2000000) only [I60, go_sem, eq_self, and_self, Int.natCast_pos, Int.le_refl, Nat.le_refl, Int.natCast_nonneg, Int.ofNat_lt, Int.ofNat_le, Int.reduceLT, Int.reduceLE, Int.reduceEq, Int.reduceNe, Int.reduceAdd, Int.reduceSub, Int.reduceMul, Int.reduceToNat, Int.reduceNeg, Nat.reduceEqDiff, Nat.reduceLeDiff, Nat.reduceSub, Nat.reduceMul, Nat.reduceLT, Nat.reduceBEq, Nat.reduceAdd]
      rfl
    · intro (n : Nat) (hn : n ≤ ls.length)
      simp (maxSteps := 2000000) only [I60, go_sem, eq_self, and_self, Int.natCast_pos, Int.le_refl, Nat.le_refl, Int.natCast_nonneg, Int.ofNat_lt, Int.ofNat_le, Int.reduceLT, Int.reduceLE, Int.reduceEq, Int.reduceNe, Int.reduceAdd, Int.reduceSub, Int.reduceMul, Int.reduceToNat, Int.reduceNeg, Nat.reduceEqDiff, Nat.reduceLeDiff, Nat.reduceSub, Nat.reduceMul, Nat.reduceLT, Nat.reduceBEq, Nat.reduceAdd]
      rintro c rfl
      refine sw_intro (fun hc => ?_) (fun hc => ?_)
      · have hlt : n < ls.length := by simp at hc; exact hc
        refine nd_intro hlt ⟨fun _ => ?_, ?_⟩
        · rw [List.length_map, List.length_take]; omega
        · rintro _ _ _ m hm
          have := maxLen_val
          rw [w64 (by omega)] at hm
          subst hm
          refine lpE_intro (A := A60 o L ls) (n + 1 : Nat) ?_ hlt ?_
          · simp (maxSteps := 2000000) only [I60, go_sem, eq_self, and_self, Int.natCast_pos, Int.le_refl, Nat.le_refl, Int.natCast_nonneg, Int.ofNat_lt, Int.ofNat_le, Int.reduceLT, Int.reduceLE, Int.reduceEq, Int.reduceNe, Int.reduceAdd, Int.reduceSub, Int.reduceMul, Int.reduceToNat, Int.reduceNeg, Nat.reduceEqDiff, Nat.reduceLeDiff, Nat.reduceSub, Nat.reduceMul, Nat.reduceLT, Nat.reduceBEq, Nat.reduceAdd]
            have e : List.map (fun x : LastT.den => x.1) (List.take n ls) ++ [(elt LastT ls n).1] = List.map (fun x : LastT.den => x.1) (List.take (n + 1) ls) := by
              rw [← take_elt hlt, List.map_append]; rfl
            rw [e]
            rfl
          · show ls.length - (n + 1) < ls.length - n
            omega
      · have : n = ls.length := by simp at hc; omega
        subst this
        rw [List.take_length]
        exact h
  · exact h.elim

/-- set -/
def C61 : Contract := fun args hp K => match args with
  | [.ptr 0 0, .str to, .int .u64 s] => onRf hp fun o L ls => (ls.length + 1) * 24 ≤ 140737488355328 ∧ K (.tup []) (rfH false true o L (setF ls to s))
  | _ => False
theorem s61 : Sound Try.prog 61 C61 := by
  refine sound_of_okF ok61 (Γ := [(63, C63), (56, C56)]) (.cons s63 (callable_of_okF ok63) (.cons s56 (callable_of_okF ok56) .nil)) ?_
  intro args hp K h
  unfold C61 at h
  split at h
  · rename_i to s
    obtain ⟨o, L, ls, rfl, hb, h⟩ := h
    refine ⟨by simp, [], ?_⟩
    unfold rfH at h ⊢
    simp (maxSteps := 2000000) only [a61, r61, C63, C56, go_sem, eq_self, and_self, Int.natCast_pos, Int.le_refl, Nat.le_refl, Int.natCast_nonneg, Int.ofNat_lt, Int.ofNat_le, Int.reduceLT, Int.reduceLE, Int.reduceEq, Int.reduceNe, Int.reduceAdd, Int.reduceSub, Int.reduceMul, Int.reduceToNat, Int.reduceNeg, Nat.reduceEqDiff, Nat.reduceLeDiff, Nat.reduceSub, Nat.reduceMul, Nat.reduceLT, Nat.reduceBEq, Nat.reduceAdd]
    refine sw_intro (fun hc => ?_) (fun hc => ?_)
    · obtain ⟨s0, hx, hs, hlt⟩ := there_get hc
      refine nd_intro hlt ?_
      rw [elt_eq (t := LastT) hx]
      have e : setF ls to s = ls.set (placeF ls to) (to, s) := by unfold setF; rw [if_pos hc]
      rw [e] at h
      exact h
    · have hle := placeF_le ls to
      refine nd_intro hle ⟨id, fun _ => ⟨fun _ => ?_, fun _ => ?_⟩⟩
      · simp only [List.length_take, List.length_drop]; omega
      · refine nd_intro hle ?_
        refine ⟨fun _ _ => ?_, fun _ => ?_⟩
        · simp only [List.length_take, List.length_drop, List.length_append, List.length_cons, List.length_nil]; omega
        · have e : setF ls to s = List.take (placeF ls to - 0) (List.drop 0 ls) ++ [(to, s)] ++ List.take (ls.length - placeF ls to) (List.drop (placeF ls to) ls) := by
            unfold setF
            rw [if_neg (by simp [hc]), Nat.sub_zero, List.drop_zero, List.take_of_length_le (l := List.drop (placeF ls to) ls) (by simp)]
            simp
          rw [e] at h
          exact h
  · exact h.elim

/-- Pop -/
def C31 : Contract := fun args hp K => match args with
  | [.ptr 0 0] => onRf hp fun o L ls =>
      (L = [] → K (.tup [.agg [.str ByteArray.empty, .str ByteArray.empty, .int .u64 0, .int .i64 0, .nils], .bool false]) (rfH true false o [] ls)) ∧
      (∀ x r, L = x :: r → K (.tup [.agg [.str x.1, .str x.2.1, .int .u64 x.2.2.1, .int .i64 x.2.2.2.1, .sl true 8 (.int .i64) x.2.2.2.2], .bool true]) (rfH true false o r ls))
  | _ => False
theorem s31 : Sound Try.prog 31 C31 := by
  refine sound_of_okF ok31 (Γ := []) .nil ?_
  intro args hp K h
  unfold C31 at h
  split at h
  · obtain ⟨o, L, ls, rfl, h1, h2⟩ := h
    refine ⟨by simp, [], ?_⟩
    unfold rfH at h1 h2 ⊢
    simp (maxSteps := 2000000) only [a31, r31, go_sem, eq_self, and_self, Int.natCast_pos, Int.le_refl, Nat.le_refl, Int.natCast_nonneg, Int.ofNat_lt, Int.ofNat_le, Int.reduceLT, Int.reduceLE, Int.reduceEq, Int.reduceNe, Int.reduceAdd, Int.reduceSub, Int.reduceMul, Int.reduceToNat, Int.reduceNeg, Nat.reduceEqDiff, Nat.reduceLeDiff, Nat.reduceSub, Nat.reduceMul, Nat.reduceLT, Nat.reduceBEq, Nat.reduceAdd]
    rintro _ _ m hm c hc
    cases L with
    | nil =>
      have : c = true := by rw [hc, hm]; rfl
      subst this
      exact h1 rfl
    | cons x r =>
      have : c = false := by rw [hc, hm]; simp; omega
      subst this
      refine nd_intro (by simp) ?_
      refine nd_intro (by simp only [List.length_cons]; omega) ?_
      refine ⟨id, fun _ => ?_⟩
      have e : List.take ((x :: r).length - 1) (List.drop 1 (x :: r)) = r := by simp
      rw [e]
      exact h2 x r rfl
  · exact h.elim

/-- Send -/
def C30 : Contract := fun args hp K => match args with
  | [.ptr 0 0, .str to, .int .i64 kind, x] => onRf hp fun o L ls => onL (.int .i64) 8 x fun xs => L.length ≤ 100 ∧ ls.length ≤ 100 ∧
      (¬ (keyOk to = true ∧ xs.length ≤ 4) → K (.tup [.int .u64 0, .int .i64 1]) hp) ∧
      ((keyOk to = true ∧ xs.length ≤ 4) → (32 ≤ L.length ∨ (thereL ls to = none ∧ 64 ≤ ls.length)) → K (.tup [.int .u64 0, .int .i64 6]) hp) ∧
      ((keyOk to = true ∧ xs.length ≤ 4) → ¬ (32 ≤ L.length ∨ (thereL ls to = none ∧ 64 ≤ ls.length)) → ∀ s : Int, s = IntKind.u64.wrap ((thereL ls to).getD (0 : Int) + 1) → 
        K (.tup [.int .u64 s, .int .i64 0]) (rfH true true o (L ++ [(to, o, s, kind, xs)]) (setF ls to s)))
  | _ => False
theorem s30 : Sound Try.prog 30 C30 := by
  refine sound_of_okF ok30 (Γ := [(29, C29), (56, C56), (34, C34), (61, C61), (62, C62)]) (.cons s29 (callable_of_okF ok29) (.cons s56 (callable_of_okF ok56) (.cons s34 (callable_of_okF ok34) (.cons s61 (callable_of_okF ok61) (.cons s62 (callable_of_okF ok62) .nil))))) ?_
  intro args hp K h
  unfold C30 at h
  split at h
  · rename_i to kind x
    obtain ⟨o, L, ls, rfl, h⟩ := h
    refine ⟨by simp, [], ?_⟩
    rcases h with ⟨rfl, hL, hls, h1, h2, h3⟩ | ⟨p, xs, rfl, hL, hls, h1, h2, h3⟩
    · unfold rfH at h1 h2 h3 ⊢
      simp (maxSteps := 2000000) only [a30, r30, C29, C56, C34, C61, C62, rfH, go_sem, eq_self, and_self, Int.natCast_pos, Int.le_refl, Nat.le_refl, Int.natCast_nonneg, Int.ofNat_lt, Int.ofNat_le, Int.reduceLT, Int.reduceLE, Int.reduceEq, Int.reduceNe, Int.reduceAdd, Int.reduceSub, Int.reduceMul, Int.reduceToNat, Int.reduceNeg, Nat.reduceEqDiff, Nat.reduceLeDiff, Nat.reduceSub, Nat.reduceMul, Nat.reduceLT, Nat.reduceBEq, Nat.reduceAdd]
      refine sw_intro (fun hk => ?_) (fun hk => h1 (by simp [hk]))
      have h4 : ([] : List Int).length ≤ 4 := by simp
      rintro _ _ m rfl c rfl
      refine sw_intro (fun hc => h2 ⟨hk, h4⟩ (.inl (by simp at hc; omega))) (fun hc => ?_)
      refine sw_intro (fun hb1 => ?_) (fun hb1 => ?_)
      · rintro _ _ s hs
        refine ⟨by omega, fun _ => by omega, fun _ => h3 ⟨hk, h4⟩ ?_ s hs⟩
        rintro (h | ⟨h, _⟩)
        · simp at hc; omega
        · rw [h] at hb1; cases hb1
      · rintro _ _ m2 rfl c rfl
        refine sw_intro (fun hc2 => h2 ⟨hk, h4⟩ (.inr ⟨by simpa using hb1, by simp at hc2; omega⟩)) (fun hc2 => ?_)
        rintro _ _ s hs
        refine ⟨by omega, fun _ => by omega, fun _ => h3 ⟨hk, h4⟩ ?_ s hs⟩
        rintro (h | ⟨_, h⟩)
        · simp at hc; omega
        · simp at hc2; omega
    · unfold rfH at h1 h2 h3 ⊢
      simp (maxSteps := 2000000) only [a30, r30, C29, C56, C34, C61, C62, rfH, go_sem, eq_self, and_self, Int.natCast_pos, Int.le_refl, Nat.le_refl, Int.natCast_nonneg, Int.ofNat_lt, Int.ofNat_le, Int.reduceLT, Int.reduceLE, Int.reduceEq, Int.reduceNe, Int.reduceAdd, Int.reduceSub, Int.reduceMul, Int.reduceToNat, Int.reduceNeg, Nat.reduceEqDiff, Nat.reduceLeDiff, Nat.reduceSub, Nat.reduceMul, Nat.reduceLT, Nat.reduceBEq, Nat.reduceAdd]
      refine sw_intro (fun hk => ?_) (fun hk => h1 (by simp [hk]))
      rintro _ _ n rfl c rfl
      refine sw_intro (fun h => h1 (fun h' => by simp at h; omega)) (fun h4 => ?_)
      have h4 : xs.length ≤ 4 := by simp at h4; omega
      rintro _ _ m rfl c rfl
      refine sw_intro (fun hc => h2 ⟨hk, h4⟩ (.inl (by simp at hc; omega))) (fun hc => ?_)
      refine sw_intro (fun hb1 => ?_) (fun hb1 => ?_)
      · rintro _ _ s hs
        refine ⟨by omega, fun _ => by omega, fun _ => h3 ⟨hk, h4⟩ ?_ s hs⟩
        rintro (h | ⟨h, _⟩)
        · simp at hc; omega
        · rw [h] at hb1; cases hb1
      · rintro _ _ m2 rfl c rfl
        refine sw_intro (fun hc2 => h2 ⟨hk, h4⟩ (.inr ⟨by simpa using hb1, by simp at hc2; omega⟩)) (fun hc2 => ?_)
        rintro _ _ s hs
        refine ⟨by omega, fun _ => by omega, fun _ => h3 ⟨hk, h4⟩ ?_ s hs⟩
        rintro (h | ⟨_, h⟩)
        · simp at hc; omega
        · simp at hc2; omega
  · exact h.elim
end Go.V
