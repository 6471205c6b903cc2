/- A part of the proof layer, or functions of the given program in it: contracts and their proofs. -/
import Derived.Test.YtbcmjkfdeikkhaaA4
namespace Go.V
open Go.Proofs
set_option maxRecDepth 100000
set_option linter.unusedSimpArgs false
set_option linter.unnecessarySimpa false
set_option linter.unusedVariables false

abbrev LastT : Ty := .pair .str (.int .u64)
/-- The document's outbox. -/
def rfH (m1 m2 : Bool) (o : ByteArray) (L : List OutT.den) (ls : List LastT.den) : List SB :=
  [.struct [.str o, .own 1, .own 2], .row m1 72 OutT L, .row m2 24 LastT ls]
def onRf (hp : List SB) (k : ByteArray → List OutT.den → List LastT.den → Prop) : Prop := ∃ o L ls, hp = rfH false false o L ls ∧ k o L ls
@[go_sem] theorem onRf_eq {o L ls k} : onRf [.struct [.str o, .own 1, .own 2], .row false 72 (.pair .str (.pair .str (.pair (.int .u64) (.pair (.int .i64) (.sl 8 (.int .i64)))))) L, .row false 24 (.pair .str (.int .u64)) ls] k = k o L ls := by
  apply propext; constructor
  · rintro ⟨o', l', m', h, hk⟩
    unfold rfH at h
    cases h
    exact hk
  · exact fun h => ⟨o, L, ls, rfl, h⟩

def placeF (ls : List LastT.den) (to : ByteArray) : Nat := (ls.takeWhile fun x => ltS x.1 to).length
def thereL (ls : List LastT.den) (to : ByteArray) : Option Int :=
  match ls[placeF ls to]? with
  | some x => if x.1 = to then some x.2 else none
  | none => none
def setF (ls : List LastT.den) (to : ByteArray) (s : Int) : List LastT.den :=
  if (thereL ls to).isSome then ls.set (placeF ls to) (to, s) else ls.take (placeF ls to) ++ ((to, s) :: ls.drop (placeF ls to))

theorem placeF_le (ls : List LastT.den) (to : ByteArray) : placeF ls to ≤ ls.length := (List.takeWhile_sublist _).length_le
theorem placeF_eq {to : ByteArray} : ∀ {ls : List LastT.den} {n : Nat}, (∀ j x, j < n → ls[j]? = some x → ltS x.1 to = true) → n ≤ ls.length → (∀ x, ls[n]? = some x → ltS x.1 to = false) → placeF ls to = n
  | [], n, _, h, _ => by simp at h; subst h; rfl
  | y :: ls, 0, _, _, h => by
    have := h y rfl
    simp [placeF, this]
  | y :: ls, n + 1, h1, h2, h3 => by
    have hy := h1 0 y (by omega) rfl
    have := placeF_eq (ls := ls) (n := n) (fun j x hj hx => h1 (j + 1) x (by omega) (by simpa using hx)) (by simpa using h2) (fun x hx => h3 x (by simpa using hx))
    unfold placeF at this ⊢
    rw [List.takeWhile_cons, if_pos hy, List.length_cons, this]

/-- Key -/
def C12 : Contract := fun args hp K => match args, hp with
  | [.str s], [] => K (.bool (keyOk s)) []
  | _, _ => False
theorem keyOk_eq (s : ByteArray) : keyOk s = (decide (1 ≤ s.size) && decide (s.size ≤ 40)) := by
  unfold keyOk
  congr 1
  apply decide_eq_decide.2
  constructor
  · intro h
    rcases Nat.eq_zero_or_pos s.size with h0 | h0
    · exfalso; apply h
      have : s.data = #[] := Array.eq_empty_of_size_eq_zero h0
      cases s; simp at this; subst this; rfl
    · exact h0
  · rintro h rfl
    have h' : 1 ≤ 0 := h
    omega
theorem s12 : Sound Try.prog 12 C12 := by
  refine sound_of_okF ok12 (Γ := []) .nil ?_
  intro args hp K h
  unfold C12 at h
  split at h
  · rename_i s
    refine ⟨by simp, [], ?_⟩
    simp (maxSteps := 2000000) only [a12, r12, go_sem, eq_self, and_self, Int.natCast_pos, Int.le_refl, Nat.le_refl, Int.natCast_nonneg, Int.ofNat_lt, Int.ofNat_le, Int.reduceLT, Int.reduceLE, Int.reduceEq, Int.reduceNe, Int.reduceAdd, Int.reduceSub, Int.reduceMul, Int.reduceToNat, Int.reduceNeg, Nat.reduceEqDiff, Nat.reduceLeDiff, Nat.reduceSub, Nat.reduceMul, Nat.reduceLT, Nat.reduceBEq, Nat.reduceAdd]
    intro _ n hn c hc
    refine sw_intro (fun hc1 => ?_) (fun hc1 => ?_)
    · intro _ m hm c' hc'
      have h1 : 1 ≤ s.size := by simp [hc1, hn] at hc; omega
      have e : keyOk s = c' := by rw [keyOk_eq, hc', hm]; simp [h1]; omega
      rw [← e]; exact h
    · have e : keyOk s = false := by
        have h1 : ¬ 1 ≤ s.size := by simp [hc1, hn] at hc; omega
        rw [keyOk_eq]; simp [h1]
      rw [← e]; exact h
  · exact h.elim

/-- New -/
def C69 : Contract := fun args hp K => match args, hp with
  | [.str s], [] => (keyOk s = true → K (.tup [.ptr 0 0, .int .i64 0]) (rfH true true s [] [])) ∧ (keyOk s = false → K (.tup [.nilp, .int .i64 1]) [])
  | _, _ => False
theorem s69 : Sound Try.prog 69 C69 := by
  refine sound_of_okF ok69 (Γ := [(12, C12)]) (.cons s12 (callable_of_okF ok12) .nil) ?_
  intro args hp K h
  unfold C69 at h
  split at h
  · rename_i s
    refine ⟨by simp, [], ?_⟩
    simp (maxSteps := 2000000) only [a69, r69, C12, go_sem, eq_self, and_self, Int.natCast_pos, Int.le_refl, Nat.le_refl, Int.natCast_nonneg, Int.ofNat_lt, Int.ofNat_le, Int.reduceLT, Int.reduceLE, Int.reduceEq, Int.reduceNe, Int.reduceAdd, Int.reduceSub, Int.reduceMul, Int.reduceToNat, Int.reduceNeg, Nat.reduceEqDiff, Nat.reduceLeDiff, Nat.reduceSub, Nat.reduceMul, Nat.reduceLT, Nat.reduceBEq, Nat.reduceAdd]
    exact sw_intro h.1 h.2
  · exact h.elim

/-- Copy -/
def C71 : Contract := fun args hp K => match args, hp with
  | [.agg [.str f, .int .u64 s, .int .i64 k, x]], [] => onL (.int .i64) 8 x fun xs => K (.agg [.str f, .int .u64 s, .int .i64 k, .own 0]) [.row true 8 (.int .i64) xs]
  | _, _ => False
theorem s71 : Sound Try.prog 71 C71 := by
  refine sound_of_okF ok71 (Γ := []) .nil ?_
  intro args hp K h
  unfold C71 at h
  split at h
  · refine ⟨by simp, [], ?_⟩
    rcases h with ⟨rfl, h⟩ | ⟨p, xs, rfl, h⟩
    · simp (maxSteps := 2000000) only [a71, r71, go_sem, eq_self, and_self, Int.natCast_pos, Int.le_refl, Nat.le_refl, Int.natCast_nonneg, Int.ofNat_lt, Int.ofNat_le, Int.reduceLT, Int.reduceLE, Int.reduceEq, Int.reduceNe, Int.reduceAdd, Int.reduceSub, Int.reduceMul, Int.reduceToNat, Int.reduceNeg, Nat.reduceEqDiff, Nat.reduceLeDiff, Nat.reduceSub, Nat.reduceMul, Nat.reduceLT, Nat.reduceBEq, Nat.reduceAdd]
      exact h
    · simp (maxSteps := 2000000) only [a71, r71, go_sem, eq_self, and_self, Int.natCast_pos, Int.le_refl, Nat.le_refl, Int.natCast_nonneg, Int.ofNat_lt, Int.ofNat_le, Int.reduceLT, Int.reduceLE, Int.reduceEq, Int.reduceNe, Int.reduceAdd, Int.reduceSub, Int.reduceMul, Int.reduceToNat, Int.reduceNeg, Nat.reduceEqDiff, Nat.reduceLeDiff, Nat.reduceSub, Nat.reduceMul, Nat.reduceLT, Nat.reduceBEq, Nat.reduceAdd]
      exact ⟨id, fun _ => h⟩
  · exact h.elim

/-- place -/
def A97 (o : ByteArray) (L : List OutT.den) (ls : List LastT.den) (to : ByteArray) : LoopAnn := {
  G := Nat
  I := fun n => ⟨[(0, .ptr 0 0), (1, .str to), (5, .int .i64 n)], [.struct [.str o, .own 1, .own 2], .row false 72 OutT L, .row false 24 LastT ls]⟩
  R := fun _ n => n ≤ ls.length ∧ ∀ j x, j < n → ls[j]? = some x → ltS x.1 to = true
  μ := fun n => ls.length - n }
theorem I97 (o L ls to) (n : Nat) : (A97 o L ls to).I n = ⟨[(0, .ptr 0 0), (1, .str to), (5, .int .i64 n)], [.struct [.str o, .own 1, .own 2], .row false 72 OutT L, .row false 24 LastT ls]⟩ := rfl
def C97 : Contract := fun args hp K => match args with
  | [.ptr 0 0, .str to] => onRf hp fun o L ls => K (.int .i64 (placeF ls to)) hp
  | _ => False
theorem s97 : Sound Try.prog 97 C97 := by
  refine sound_of_okF ok97 (Γ := []) .nil ?_
  intro args hp K h
  unfold C97 at h
  split at h
  · rename_i to
    obtain ⟨o, L, ls, rfl, h⟩ := h
    refine ⟨by simp, [(1, A97 o L ls to)], ?_⟩
    unfold rfH at h ⊢
    simp (maxSteps := 2000000) only [a97, r97, go_sem, eq_self, and_self, Int.natCast_pos, Int.le_refl, Nat.le_refl, Int.natCast_nonneg, Int.ofNat_lt, Int.ofNat_le, Int.reduceLT, Int.reduceLE, Int.reduceEq, Int.reduceNe, Int.reduceAdd, Int.reduceSub, Int.reduceMul, Int.reduceToNat, Int.reduceNeg, Nat.reduceEqDiff, Nat.reduceLeDiff, Nat.reduceSub, Nat.reduceMul, Nat.reduceLT, Nat.reduceBEq, Nat.reduceAdd]
    refine loop_intro (A := A97 o L ls to) (0 : Nat) ?_ ⟨Nat.zero_le _, fun j x hj => absurd hj (by omega)⟩ ?_
    · simp (maxSteps := 2000000) only [I97, go_sem, eq_self, and_self, Int.natCast_pos, Int.le_refl, Nat.le_refl, Int.natCast_nonneg, Int.ofNat_lt, Int.ofNat_le, Int.reduceLT, Int.reduceLE, Int.reduceEq, Int.reduceNe, Int.reduceAdd, Int.reduceSub, Int.reduceMul, Int.reduceToNat, Int.reduceNeg, Nat.reduceEqDiff, Nat.reduceLeDiff, Nat.reduceSub, Nat.reduceMul, Nat.reduceLT, Nat.reduceBEq, Nat.reduceAdd]
      rfl
    · rintro (n : Nat) ⟨hn, hlt⟩
      simp (maxSteps := 2000000) only [I97, go_sem, eq_self, and_self, Int.natCast_pos, Int.le_refl, Nat.le_refl, Int.natCast_nonneg, Int.ofNat_lt, Int.ofNat_le, Int.reduceLT, Int.reduceLE, Int.reduceEq, Int.reduceNe, Int.reduceAdd, Int.reduceSub, Int.reduceMul, Int.reduceToNat, Int.reduceNeg, Nat.reduceEqDiff, Nat.reduceLeDiff, Nat.reduceSub, Nat.reduceMul, Nat.reduceLT, Nat.reduceBEq, Nat.reduceAdd]
      rintro hl1 _ m rfl c rfl
      refine sw_intro (fun hc => ?_) (fun hc => ?_)
      · have hlt' : n < ls.length := by simp at hc; omega
        refine nd_intro hlt' ?_
        intro c' hc'
        have hx := elt_get (t := LastT) hlt'
        refine sw_intro (fun hc1 => ?_) (fun hc1 => ?_)
        · intro _ _ m hm
          have := maxLen_val
          rw [w64 (by omega)] at hm
          subst hm
          refine lpE_intro (A := A97 o L ls to) (n + 1 : Nat) ?_ ⟨hlt', fun j y hj hy => ?_⟩ ?_
          · simp (maxSteps := 2000000) only [I97, go_sem, eq_self, and_self, Int.natCast_pos, Int.le_refl, Nat.le_refl, Int.natCast_nonneg, Int.ofNat_lt, Int.ofNat_le, Int.reduceLT, Int.reduceLE, Int.reduceEq, Int.reduceNe, Int.reduceAdd, Int.reduceSub, Int.reduceMul, Int.reduceToNat, Int.reduceNeg, Nat.reduceEqDiff, Nat.reduceLeDiff, Nat.reduceSub, Nat.reduceMul, Nat.reduceLT, Nat.reduceBEq, Nat.reduceAdd]
            rfl
          · by_cases hjn : j < n
            · exact hlt j y hjn hy
            · have : j = n := by omega
              subst this
              rw [hx] at hy; cases hy
              rw [← hc', hc1]
          · show ls.length - (n + 1) < ls.length - n
            omega
        · rw [← placeF_eq hlt hn (fun y hy => by rw [hx] at hy; cases hy; rw [← hc', hc1])]
          exact h
      · have hn' : n = ls.length := by simp at hc; omega
        rw [← placeF_eq hlt hn (fun y hy => by rw [hn'] at hy; simp at hy)]
        exact h
  · exact h.elim

/-- there -/
def C72 : Contract := fun args hp K => match args with
  | [.ptr 0 0, .str to] => onRf hp fun o L ls => K (.bool (thereL ls to).isSome) hp
  | _ => False
theorem s72 : Sound Try.prog 72 C72 := by
  refine sound_of_okF ok72 (Γ := [(97, C97)]) (.cons s97 (callable_of_okF ok97) .nil) ?_
  intro args hp K h
  unfold C72 at h
  split at h
  · rename_i to
    obtain ⟨o, L, ls, rfl, h⟩ := h
    refine ⟨by simp, [], ?_⟩
    unfold rfH at h ⊢
    simp (maxSteps := 2000000) only [a72, r72, C97, go_sem, eq_self, and_self, Int.natCast_pos, Int.le_refl, Nat.le_refl, Int.natCast_nonneg, Int.ofNat_lt, Int.ofNat_le, Int.reduceLT, Int.reduceLE, Int.reduceEq, Int.reduceNe, Int.reduceAdd, Int.reduceSub, Int.reduceMul, Int.reduceToNat, Int.reduceNeg, Nat.reduceEqDiff, Nat.reduceLeDiff, Nat.reduceSub, Nat.reduceMul, Nat.reduceLT, Nat.reduceBEq, Nat.reduceAdd]
    rintro _ _ m rfl c rfl
    refine sw_intro (fun hc => ?_) (fun hc => ?_)
    · have hlt : placeF ls to < ls.length := by simp at hc; omega
      refine nd_intro hlt ?_
      intro c hc
      have e : (thereL ls to).isSome = c := by
        unfold thereL
        rw [elt_get (t := LastT) hlt]
        simp only
        by_cases h : (elt LastT ls (placeF ls to)).1 = to <;> simp [h, hc]
      rw [e] at h; exact h
    · have hge : ls[placeF ls to]? = none := List.getElem?_eq_none (by simp at hc; omega)
      have e : (thereL ls to).isSome = false := by unfold thereL; rw [hge]; rfl
      rw [e] at h; exact h
  · exact h.elim

theorem there_get {ls : List LastT.den} {to : ByteArray} (h : (thereL ls to).isSome = true) : ∃ s : Int, ls[placeF ls to]? = some (to, s) ∧ thereL ls to = some s ∧ placeF ls to < ls.length := by
  unfold thereL at h ⊢
  cases hx : ls[placeF ls to]? with
  | none => rw [hx] at h; cases h
  | some x =>
    rw [hx] at h
    simp only at h ⊢
    by_cases hto : x.1 = to
    · obtain ⟨a, b⟩ := x
      simp only at hto
      subst hto
      exact ⟨b, rfl, by simp, (List.getElem?_eq_some_iff.1 hx).1⟩
    · simp [hto] at h

/-- Serial -/
def C73 : Contract := fun args hp K => match args with
  | [.ptr 0 0, .str to] => onRf hp fun o L ls => K (.int .u64 ((thereL ls to).getD (0 : Int))) hp
  | _ => False
theorem s73 : Sound Try.prog 73 C73 := by
  refine sound_of_okF ok73 (Γ := [(97, C97), (72, C72)]) (.cons s97 (callable_of_okF ok97) (.cons s72 (callable_of_okF ok72) .nil)) ?_
  intro args hp K h
  unfold C73 at h
  split at h
  · rename_i to
    obtain ⟨o, L, ls, rfl, h⟩ := h
    refine ⟨by simp, [], ?_⟩
    unfold rfH at h ⊢
    simp (maxSteps := 2000000) only [a73, r73, C97, C72, go_sem, eq_self, and_self, Int.natCast_pos, Int.le_refl, Nat.le_refl, Int.natCast_nonneg, Int.ofNat_lt, Int.ofNat_le, Int.reduceLT, Int.reduceLE, Int.reduceEq, Int.reduceNe, Int.reduceAdd, Int.reduceSub, Int.reduceMul, Int.reduceToNat, Int.reduceNeg, Nat.reduceEqDiff, Nat.reduceLeDiff, Nat.reduceSub, Nat.reduceMul, Nat.reduceLT, Nat.reduceBEq, Nat.reduceAdd]
    refine sw_intro (fun hc => ?_) (fun hc => ?_)
    · obtain ⟨s, hx, hs, hlt⟩ := there_get hc
      refine nd_intro hlt ?_
      rw [elt_eq (t := LastT) hx]
      rw [hs] at h
      exact h
    · have e : thereL ls to = none := by
        cases h : thereL ls to with
        | none => rfl
        | some x => rw [h] at hc; cases hc
      rw [e] at h
      exact h
  · exact h.elim

/-- Keys -/
def A54 (o : ByteArray) (L : List OutT.den) (ls : List LastT.den) : LoopAnn := {
  G := Nat
  I := fun n => ⟨[(0, .ptr 0 0), (3, .own 3), (9, .int .i64 ls.length), (10, .int .i64 n)], [.struct [.str o, .own 1, .own 2], .row false 72 OutT L, .row false 24 LastT ls, .row true 16 .str ((ls.take n).map fun x => x.1)]⟩
  R := fun _ n => n ≤ ls.length
  μ := fun n => ls.length - n }
theorem I54 (o L ls) (n : Nat) : (A54 o L ls).I n = ⟨[(0, .ptr 0 0), (3, .own 3), (9, .int .i64 ls.length), (10, .int .i64 n)], [.struct [.str o, .own 1, .own 2], .row false 72 OutT L, .row false 24 LastT ls, .row true 16 .str ((ls.take n).map fun x => x.1)]⟩ := rfl
def C54 : Contract := fun args hp K => match args with
  | [.ptr 0 0] => onRf hp fun o L ls => K (.own 3) (hp ++ [.row true 16 .str (ls.map fun x => x.1)])
  | _ => False
theorem s54 : Sound Try.prog 54 C54 := by
  refine sound_of_okF ok54 (Γ := []) .nil ?_
  intro args hp K h
  unfold C54 at h
  split at h
  · obtain ⟨o, L, ls, rfl, h⟩ := h
    refine ⟨by simp, [(1, A54 o L ls)], ?_⟩
    unfold rfH at h ⊢
    simp (maxSteps := 2000000) only [a54, r54, go_sem, eq_self, and_self, Int.natCast_pos, Int.le_refl, Nat.le_refl, Int.natCast_nonneg, Int.ofNat_lt, Int.ofNat_le, Int.reduceLT, Int.reduceLE, Int.reduceEq, Int.reduceNe, Int.reduceAdd, Int.reduceSub, Int.reduceMul, Int.reduceToNat, Int.reduceNeg, Nat.reduceEqDiff, Nat.reduceLeDiff, Nat.reduceSub, Nat.reduceMul, Nat.reduceLT, Nat.reduceBEq, Nat.reduceAdd]
    rintro hl1 hl2 m rfl
    refine loop_intro (A := A54 o L ls) (0 : Nat) ?_ (Nat.zero_le _) ?_
    · simp (maxSteps := 2000000) only [I54, go_sem, eq_self, and_self, Int.natCast_pos, Int.le_refl, Nat.le_refl, Int.natCast_nonneg, Int.ofNat_lt, Int.ofNat_le, Int.reduceLT, Int.reduceLE, Int.reduceEq, Int.reduceNe, Int.reduceAdd, Int.reduceSub, Int.reduceMul, Int.reduceToNat, Int.reduceNeg, Nat.reduceEqDiff, Nat.reduceLeDiff, Nat.reduceSub, Nat.reduceMul, Nat.reduceLT, Nat.reduceBEq, Nat.reduceAdd]
      rfl
    · intro (n : Nat) (hn : n ≤ ls.length)
      simp (maxSteps := 2000000) only [I54, go_sem, eq_self, and_self, Int.natCast_pos, Int.le_refl, Nat.le_refl, Int.natCast_nonneg, Int.ofNat_lt, Int.ofNat_le, Int.reduceLT, Int.reduceLE, Int.reduceEq, Int.reduceNe, Int.reduceAdd, Int.reduceSub, Int.reduceMul, Int.reduceToNat, Int.reduceNeg, Nat.reduceEqDiff, Nat.reduceLeDiff, Nat.reduceSub, Nat.reduceMul, Nat.reduceLT, Nat.reduceBEq, Nat.reduceAdd]
      rintro c rfl
      refine sw_intro (fun hc => ?_) (fun hc => ?_)
      · have hlt : n < ls.length := by simp at hc; exact hc
        refine nd_intro hlt ⟨fun _ => ?_, ?_⟩
        · rw [List.length_map, List.length_take]; omega
        · rintro _ _ _ m hm
          have := maxLen_val
          rw [w64 (by omega)] at hm
          subst hm
          refine lpE_intro (A := A54 o L ls) (n + 1 : Nat) ?_ hlt ?_
          · simp (maxSteps := 2000000) only [I54, go_sem, eq_self, and_self, Int.natCast_pos, Int.le_refl, Nat.le_refl, Int.natCast_nonneg, Int.ofNat_lt, Int.ofNat_le, Int.reduceLT, Int.reduceLE, Int.reduceEq, Int.reduceNe, Int.reduceAdd, Int.reduceSub, Int.reduceMul, Int.reduceToNat, Int.reduceNeg, Nat.reduceEqDiff, Nat.reduceLeDiff, Nat.reduceSub, Nat.reduceMul, Nat.reduceLT, Nat.reduceBEq, Nat.reduceAdd]
            have e : List.map (fun x : LastT.den => x.1) (List.take n ls) ++ [(elt LastT ls n).1] = List.map (fun x : LastT.den => x.1) (List.take (n + 1) ls) := by
              rw [← take_elt hlt, List.map_append]; rfl
            rw [e]
            rfl
          · show ls.length - (n + 1) < ls.length - n
            omega
      · have : n = ls.length := by simp at hc; omega
        subst this
        rw [List.take_length]
        exact h
  · exact h.elim

/-- set -/
def C74 : Contract := fun args hp K => match args with
  | [.ptr 0 0, .str to, .int .u64 s] => onRf hp fun o L ls => (ls.length + 1) * 24 ≤ 140737488355328 ∧ K (.tup []) (rfH false true o L (setF ls to s))
  | _ => False
theorem s74 : Sound Try.prog 74 C74 := by
  refine sound_of_okF ok74 (Γ := [(97, C97), (72, C72)]) (.cons s97 (callable_of_okF ok97) (.cons s72 (callable_of_okF ok72) .nil)) ?_
  intro args hp K h
  unfold C74 at h
  split at h
  · rename_i to s
    obtain ⟨o, L, ls, rfl, hb, h⟩ := h
    refine ⟨by simp, [], ?_⟩
    unfold rfH at h ⊢
    simp (maxSteps := 2000000) only [a74, r74, C97, C72, go_sem, eq_self, and_self, Int.natCast_pos, Int.le_refl, Nat.le_refl, Int.natCast_nonneg, Int.ofNat_lt, Int.ofNat_le, Int.reduceLT, Int.reduceLE, Int.reduceEq, Int.reduceNe, Int.reduceAdd, Int.reduceSub, Int.reduceMul, Int.reduceToNat, Int.reduceNeg, Nat.reduceEqDiff, Nat.reduceLeDiff, Nat.reduceSub, Nat.reduceMul, Nat.reduceLT, Nat.reduceBEq, Nat.reduceAdd]
    refine sw_intro (fun hc => ?_) (fun hc => ?_)
    · obtain ⟨s0, hx, hs, hlt⟩ := there_get hc
      refine nd_intro hlt ?_
      rw [elt_eq (t := LastT) hx]
      have e : setF ls to s = ls.set (placeF ls to) (to, s) := by unfold setF; rw [if_pos hc]
      rw [e] at h
      exact h
    · have hle := placeF_le ls to
      refine nd_intro hle ⟨id, fun _ => ⟨fun _ => ?_, fun _ => ?_⟩⟩
      · simp only [List.length_take, List.length_drop]; omega
      · refine nd_intro hle ?_
        refine ⟨fun _ _ => ?_, fun _ => ?_⟩
        · simp only [List.length_take, List.length_drop, List.length_append, List.length_cons, List.length_nil]; omega
        · have e : setF ls to s = List.take (placeF ls to - 0) (List.drop 0 ls) ++ [(to, s)] ++ List.take (ls.length - placeF ls to) (List.drop (placeF ls to) ls) := by
            unfold setF
            rw [if_neg (by simp [hc]), Nat.sub_zero, List.drop_zero, List.take_of_length_le (l := List.drop (placeF ls to) ls) (by simp)]
            simp
          rw [e] at h
          exact h
  · exact h.elim

/-- Send -/
def C32 : Contract := fun args hp K => match args with
  | [.ptr 0 0, .str to, .int .i64 kind, x] => onRf hp fun o L ls => onL (.int .i64) 8 x fun xs => L.length ≤ 100 ∧ ls.length ≤ 100 ∧
      (¬ (keyOk to = true ∧ xs.length ≤ 4) → K (.tup [.int .u64 0, .int .i64 1]) hp) ∧
      ((keyOk to = true ∧ xs.length ≤ 4) → (32 ≤ L.length ∨ (thereL ls to = none ∧ 64 ≤ ls.length)) → K (.tup [.int .u64 0, .int .i64 6]) hp) ∧
      ((keyOk to = true ∧ xs.length ≤ 4) → ¬ (32 ≤ L.length ∨ (thereL ls to = none ∧ 64 ≤ ls.length)) → ∀ s : Int, s = IntKind.u64.wrap ((thereL ls to).getD (0 : Int) + 1) → 
        K (.tup [.int .u64 s, .int .i64 0]) (rfH true true o (L ++ [(to, o, s, kind, xs)]) (setF ls to s)))
  | _ => False
theorem s32 : Sound Try.prog 32 C32 := by
  refine sound_of_okF ok32 (Γ := [(12, C12), (72, C72), (73, C73), (74, C74), (71, C71)]) (.cons s12 (callable_of_okF ok12) (.cons s72 (callable_of_okF ok72) (.cons s73 (callable_of_okF ok73) (.cons s74 (callable_of_okF ok74) (.cons s71 (callable_of_okF ok71) .nil))))) ?_
  intro args hp K h
  unfold C32 at h
  split at h
  · rename_i to kind x
    obtain ⟨o, L, ls, rfl, h⟩ := h
    refine ⟨by simp, [], ?_⟩
    rcases h with ⟨rfl, hL, hls, h1, h2, h3⟩ | ⟨p, xs, rfl, hL, hls, h1, h2, h3⟩
    · unfold rfH at h1 h2 h3 ⊢
      simp (maxSteps := 2000000) only [a32, r32, C12, C72, C73, C74, C71, rfH, go_sem, eq_self, and_self, Int.natCast_pos, Int.le_refl, Nat.le_refl, Int.natCast_nonneg, Int.ofNat_lt, Int.ofNat_le, Int.reduceLT, Int.reduceLE, Int.reduceEq, Int.reduceNe, Int.reduceAdd, Int.reduceSub, Int.reduceMul, Int.reduceToNat, Int.reduceNeg, Nat.reduceEqDiff, Nat.reduceLeDiff, Nat.reduceSub, Nat.reduceMul, Nat.reduceLT, Nat.reduceBEq, Nat.reduceAdd]
      refine sw_intro (fun hk => ?_) (fun hk => h1 (by simp [hk]))
      have h4 : ([] : List Int).length ≤ 4 := by simp
      rintro _ _ m rfl c rfl
      refine sw_intro (fun hc => h2 ⟨hk, h4⟩ (.inl (by simp at hc; omega))) (fun hc => ?_)
      refine sw_intro (fun hb1 => ?_) (fun hb1 => ?_)
      · rintro _ _ s hs
        refine ⟨by omega, fun _ => by omega, fun _ => h3 ⟨hk, h4⟩ ?_ s hs⟩
        rintro (h | ⟨h, _⟩)
        · simp at hc; omega
        · rw [h] at hb1; cases hb1
      · rintro _ _ m2 rfl c rfl
        refine sw_intro (fun hc2 => h2 ⟨hk, h4⟩ (.inr ⟨by simpa using hb1, by simp at hc2; omega⟩)) (fun hc2 => ?_)
        rintro _ _ s hs
        refine ⟨by omega, fun _ => by omega, fun _ => h3 ⟨hk, h4⟩ ?_ s hs⟩
        rintro (h | ⟨_, h⟩)
        · simp at hc; omega
        · simp at hc2; omega
    · unfold rfH at h1 h2 h3 ⊢
      simp (maxSteps := 2000000) only [a32, r32, C12, C72, C73, C74, C71, rfH, go_sem, eq_self, and_self, Int.natCast_pos, Int.le_refl, Nat.le_refl, Int.natCast_nonneg, Int.ofNat_lt, Int.ofNat_le, Int.reduceLT, Int.reduceLE, Int.reduceEq, Int.reduceNe, Int.reduceAdd, Int.reduceSub, Int.reduceMul, Int.reduceToNat, Int.reduceNeg, Nat.reduceEqDiff, Nat.reduceLeDiff, Nat.reduceSub, Nat.reduceMul, Nat.reduceLT, Nat.reduceBEq, Nat.reduceAdd]
      refine sw_intro (fun hk => ?_) (fun hk => h1 (by simp [hk]))
      rintro _ _ n rfl c rfl
      refine sw_intro (fun h => h1 (fun h' => by simp at h; omega)) (fun h4 => ?_)
      have h4 : xs.length ≤ 4 := by simp at h4; omega
      rintro _ _ m rfl c rfl
      refine sw_intro (fun hc => h2 ⟨hk, h4⟩ (.inl (by simp at hc; omega))) (fun hc => ?_)
      refine sw_intro (fun hb1 => ?_) (fun hb1 => ?_)
      · rintro _ _ s hs
        refine ⟨by omega, fun _ => by omega, fun _ => h3 ⟨hk, h4⟩ ?_ s hs⟩
        rintro (h | ⟨h, _⟩)
        · simp at hc; omega
        · rw [h] at hb1; cases hb1
      · rintro _ _ m2 rfl c rfl
        refine sw_intro (fun hc2 => h2 ⟨hk, h4⟩ (.inr ⟨by simpa using hb1, by simp at hc2; omega⟩)) (fun hc2 => ?_)
        rintro _ _ s hs
        refine ⟨by omega, fun _ => by omega, fun _ => h3 ⟨hk, h4⟩ ?_ s hs⟩
        rintro (h | ⟨_, h⟩)
        · simp at hc; omega
        · simp at hc2; omega
  · exact h.elim
end Go.V
