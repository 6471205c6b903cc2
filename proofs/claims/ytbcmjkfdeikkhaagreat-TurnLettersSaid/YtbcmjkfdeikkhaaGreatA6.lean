/- A part of the proof layer, or functions of the given program in it: contracts and their proofs. -/
import Derived.Test.YtbcmjkfdeikkhaaGreatA4
namespace Go.V
open Go.Proofs
set_option maxRecDepth 100000
set_option linter.unusedSimpArgs false
set_option linter.unnecessarySimpa false
set_option linter.unusedVariables false
abbrev LastT : Ty := .pair .str (.int .u64)
/-- The document's outbox. -/
def rfH (m1 m2 : Bool) (o : ByteArray) (L : List OutT.den) (ls : List LastT.den) : List SB :=
  [.struct [.str o, .own 1, .own 2], .row m1 72 OutT L, .row m2 24 LastT ls]
def onRf (hp : List SB) (k : ByteArray → List OutT.den → List LastT.den → Prop) : Prop := ∃ o L ls, hp = rfH false false o L ls ∧ k o L ls
@[go_sem] theorem onRf_eq {o L ls k} : onRf [.struct [.str o, .own 1, .own 2], .row false 72 (.pair .str (.pair .str (.pair (.int .u64) (.pair (.int .i64) (.sl 8 (.int .i64)))))) L, .row false 24 (.pair .str (.int .u64)) ls] k = k o L ls := by
  apply propext; constructor
  · rintro ⟨o', l', m', h, hk⟩
    unfold rfH at h
    cases h
    exact hk
  · exact fun h => ⟨o, L, ls, rfl, h⟩

def placeF (ls : List LastT.den) (to : ByteArray) : Nat := (ls.takeWhile fun x => ltS x.1 to).length
def thereL (ls : List LastT.den) (to : ByteArray) : Option Int :=
  match ls[placeF ls to]? with
  | some x => if x.1 = to then some x.2 else none
  | none => none
def setF (ls : List LastT.den) (to : ByteArray) (s : Int) : List LastT.den :=
  if (thereL ls to).isSome then ls.set (placeF ls to) (to, s) else ls.take (placeF ls to) ++ ((to, s) :: ls.drop (placeF ls to))

theorem placeF_le (ls : List LastT.den) (to : ByteArray) : placeF ls to ≤ ls.length := (List.takeWhile_sublist _).length_le
theorem placeF_eq {to : ByteArray} : ∀ {ls : List LastT.den} {n : Nat}, (∀ j x, j < n → ls[j]? = some x → ltS x.1 to = true) → n ≤ ls.length → (∀ x, ls[n]? = some x → ltS x.1 to = false) → placeF ls to = n
  | [], n, _, h, _ => by simp at h; subst h; rfl
  | y :: ls, 0, _, _, h => by
    have := h y rfl
    simp [placeF, this]
  | y :: ls, n + 1, h1, h2, h3 => by
    have hy := h1 0 y (by omega) rfl
    have := placeF_eq (ls := ls) (n := n) (fun j x hj hx => h1 (j + 1) x (by omega) (by simpa using hx)) (by simpa using h2) (fun x hx => h3 x (by simpa using hx))
    unfold placeF at this ⊢
    rw [List.takeWhile_cons, if_pos hy, List.length_cons, this]

/-- Key -/
def C82 : Contract := fun args hp K => match args, hp with
  | [.str s], [] => K (.bool (keyOk s)) []
  | _, _ => False
theorem keyOk_eq (s : ByteArray) : keyOk s = (decide (1 ≤ s.size) && decide (s.size ≤ 40)) := by
  unfold keyOk
  congr 1
  apply decide_eq_decide.2
  constructor
  · intro h
    rcases Nat.eq_zero_or_pos s.size with h0 | h0
    · exfalso; apply h
      have : s.data = #[] := Array.eq_empty_of_size_eq_zero h0
      cases s; simp at this; subst this; rfl
    · exact h0
  · rintro h rfl
    have h' : 1 ≤ 0 := h
    omega
theorem s82 : Sound Tryz.prog 82 C82 := by
  refine sound_of_okF ok82 (Γ := []) .nil ?_
  intro args hp K h
  unfold C82 at h
  split at h
  · rename_i s
    refine ⟨by simp, [], ?_⟩
    simp (maxSteps := 2000000) only [a82, r82, go_sem, eq_self, and_self, Int.natCast_pos, Int.le_refl, Nat.le_refl, Int.natCast_nonneg, Int.ofNat_lt, Int.ofNat_le, Int.reduceLT, Int.reduceLE, Int.reduceEq, Int.reduceNe, Int.reduceAdd, Int.reduceSub, Int.reduceMul, Int.reduceToNat, Int.reduceNeg, Nat.reduceEqDiff, Nat.reduceLeDiff, Nat.reduceSub, Nat.reduceMul, Nat.reduceLT, Nat.reduceBEq, Nat.reduceAdd]
    intro _ n hn c hc
    refine sw_intro (fun hc1 => ?_) (fun hc1 => ?_)
    · intro _ m hm c' hc'
      have h1 : 1 ≤ s.size := by simp [hc1, hn] at hc; omega
      have e : keyOk s = c' := by rw [keyOk_eq, hc', hm]; simp [h1]; omega
      rw [← e]; exact h
    · have e : keyOk s = false := by
        have h1 : ¬ 1 ≤ s.size := by simp [hc1, hn] at hc; omega
        rw [keyOk_eq]; simp [h1]
      rw [← e]; exact h
  · exact h.elim

/-- New -/
def C76 : Contract := fun args hp K => match args, hp with
  | [.str s], [] => (keyOk s = true → K (.tup [.ptr 0 0, .int .i64 0]) (rfH true true s [] [])) ∧ (keyOk s = false → K (.tup [.nilp, .int .i64 1]) [])
  | _, _ => False
theorem s76 : Sound Tryz.prog 76 C76 := by
  refine sound_of_okF ok76 (Γ := [(82, C82)]) (.cons s82 (callable_of_okF ok82) .nil) ?_
  intro args hp K h
  unfold C76 at h
  split at h
  · rename_i s
    refine ⟨by simp, [], ?_⟩
    simp (maxSteps := 2000000) only [a76, r76, C82, go_sem, eq_self, and_self, Int.natCast_pos, Int.le_refl, Nat.le_refl, Int.natCast_nonneg, Int.ofNat_lt, Int.ofNat_le, Int.reduceLT, Int.reduceLE, Int.reduceEq, Int.reduceNe, Int.reduceAdd, Int.reduceSub, Int.reduceMul, Int.reduceToNat, Int.reduceNeg, Nat.reduceEqDiff, Nat.reduceLeDiff, Nat.reduceSub, Nat.reduceMul, Nat.reduceLT, Nat.reduceBEq, Nat.reduceAdd]
    exact sw_intro h.1 h.2
  · exact h.elim

/-- Copy -/
def C78 : Contract := fun args hp K => match args, hp with
  | [.agg [.str f, .int .u64 s, .int .i64 k, x]], [] => onL (.int .i64) 8 x fun xs => K (.agg [.str f, .int .u64 s, .int .i64 k, .own 0]) [.row true 8 (.int .i64) xs]
  | _, _ => False
theorem s78 : Sound Tryz.prog 78 C78 := by
  refine sound_of_okF ok78 (Γ := []) .nil ?_
  intro args hp K h
  unfold C78 at h
  split at h
  · refine ⟨by simp, [], ?_⟩
    rcases h with ⟨rfl, h⟩ | ⟨p, xs, rfl, h⟩
    · simp (maxSteps := 2000000) only [a78, r78, go_sem, eq_self, and_self, Int.natCast_pos, Int.le_refl, Nat.le_refl, Int.natCast_nonneg, Int.ofNat_lt, Int.ofNat_le, Int.reduceLT, Int.reduceLE, Int.reduceEq, Int.reduceNe, Int.reduceAdd, Int.reduceSub, Int.reduceMul, Int.reduceToNat, Int.reduceNeg, Nat.reduceEqDiff, Nat.reduceLeDiff, Nat.reduceSub, Nat.reduceMul, Nat.reduceLT, Nat.reduceBEq, Nat.reduceAdd]
      exact h
    · simp (maxSteps := 2000000) only [a78, r78, go_sem, eq_self, and_self, Int.natCast_pos, Int.le_refl, Nat.le_refl, Int.natCast_nonneg, Int.ofNat_lt, Int.ofNat_le, Int.reduceLT, Int.reduceLE, Int.reduceEq, Int.reduceNe, Int.reduceAdd, Int.reduceSub, Int.reduceMul, Int.reduceToNat, Int.reduceNeg, Nat.reduceEqDiff, Nat.reduceLeDiff, Nat.reduceSub, Nat.reduceMul, Nat.reduceLT, Nat.reduceBEq, Nat.reduceAdd]
      exact ⟨id, fun _ => h⟩
  · exact h.elim

/-- place -/
def A104 (o : ByteArray) (L : List OutT.den) (ls : List LastT.den) (to : ByteArray) : LoopAnn := {
  G := Nat
  I := fun n => ⟨[(0, .ptr 0 0), (1, .str to), (5, .int .i64 n)], [.struct [.str o, .own 1, .own 2], .row false 72 OutT L, .row false 24 LastT ls]⟩
  R := fun _ n => n ≤ ls.length ∧ ∀ j x, j < n → ls[j]? = some x → ltS x.1 to = true
  μ := fun n => ls.length - n }
theorem I104 (o L ls to) (n : Nat) : (A104 o L ls to).I n = ⟨[(0, .ptr 0 0), (1, .str to), (5, .int .i64 n)], [.struct [.str o, .own 1, .own 2], .row false 72 OutT L, .row false 24 LastT ls]⟩ := rfl
def C104 : Contract := fun args hp K => match args with
  | [.ptr 0 0, .str to] => onRf hp fun o L ls => K (.int .i64 (placeF ls to)) hp
  | _ => False
theorem s104 : Sound Tryz.prog 104 C104 := by
  refine sound_of_okF ok104 (Γ := []) .nil ?_
  intro args hp K h
  unfold C104 at h
  split at h
  · rename_i to
    obtain ⟨o, L, ls, rfl, h⟩ := h
    refine ⟨by simp, [(1, A104 o L ls to)], ?_⟩
    unfold rfH at h ⊢
    simp (maxSteps := 2000000) only [a104, r104, go_sem, eq_self, and_self, Int.natCast_pos, Int.le_refl, Nat.le_refl, Int.natCast_nonneg, Int.ofNat_lt, Int.ofNat_le, Int.reduceLT, Int.reduceLE, Int.reduceEq, Int.reduceNe, Int.reduceAdd, Int.reduceSub, Int.reduceMul, Int.reduceToNat, Int.reduceNeg, Nat.reduceEqDiff, Nat.reduceLeDiff, Nat.reduceSub, Nat.reduceMul, Nat.reduceLT, Nat.reduceBEq, Nat.reduceAdd]
    refine loop_intro (A := A104 o L ls to) (0 : Nat) ?_ ⟨Nat.zero_le _, fun j x hj => absurd hj (by omega)⟩ ?_
    · simp (maxSteps := 2000000) only [I104, go_sem, eq_self, and_self, Int.natCast_pos, Int.le_refl, Nat.le_refl, Int.natCast_nonneg, Int.ofNat_lt, Int.ofNat_le, Int.reduceLT, Int.reduceLE, Int.reduceEq, Int.reduceNe, Int.reduceAdd, Int.reduceSub, Int.reduceMul, Int.reduceToNat, Int.reduceNeg, Nat.reduceEqDiff, Nat.reduceLeDiff, Nat.reduceSub, Nat.reduceMul, Nat.reduceLT, Nat.reduceBEq, Nat.reduceAdd]
      rfl
    · rintro (n : Nat) ⟨hn, hlt⟩
      simp (maxSteps := 2000000) only [I104, go_sem, eq_self, and_self, Int.natCast_pos, Int.le_refl, Nat.le_refl, Int.natCast_nonneg, Int.ofNat_lt, Int.ofNat_le, Int.reduceLT, Int.reduceLE, Int.reduceEq, Int.reduceNe, Int.reduceAdd, Int.reduceSub, Int.reduceMul, Int.reduceToNat, Int.reduceNeg, Nat.reduceEqDiff, Nat.reduceLeDiff, Nat.reduceSub, Nat.reduceMul, Nat.reduceLT, Nat.reduceBEq, Nat.reduceAdd]
      rintro hl1 _ m rfl c rfl
      refine sw_intro (fun hc => ?_) (fun hc => ?_)
      · have hlt' : n < ls.length := by simp at hc; omega
        refine nd_intro hlt' ?_
        intro c' hc'
        have hx := elt_get (t := LastT) hlt'
        refine sw_intro (fun hc1 => ?_) (fun hc1 => ?_)
        · intro _ _ m hm
          have := maxLen_val
          rw [w64 (by omega)] at hm
          subst hm
          refine lpE_intro (A := A104 o L ls to) (n + 1 : Nat) ?_ ⟨hlt', fun j y hj hy => ?_⟩ ?_
          · simp (maxSteps := 2000000) only [I104, go_sem, eq_self, and_self, Int.natCast_pos, Int.le_refl, Nat.le_refl, Int.natCast_nonneg, Int.ofNat_lt, Int.ofNat_le, Int.reduceLT, Int.reduceLE, Int.reduceEq, Int.reduceNe, Int.reduceAdd, Int.reduceSub, Int.reduceMul, Int.reduceToNat, Int.reduceNeg, Nat.reduceEqDiff, Nat.reduceLeDiff, Nat.reduceSub, Nat.reduceMul, Nat.reduceLT, Nat.reduceBEq, Nat.reduceAdd]
            rfl
          · by_cases hjn : j < n
            · exact hlt j y hjn hy
            · have : j = n := by omega
              subst this
              rw [hx] at hy; cases hy
              rw [← hc', hc1]
          · show ls.length - (n + 1) < ls.length - n
            omega
        · rw [← placeF_eq hlt hn (fun y hy => by rw [hx] at hy; cases hy; rw [← hc', hc1])]
          exact h
      · have hn' : n = ls.length := by simp at hc; omega
        rw [← placeF_eq hlt hn (fun y hy => by rw [hn'] at hy; simp at hy)]
        exact h
  · exact h.elim

/-- there -/
def C83 : Contract := fun args hp K => match args with
  | [.ptr 0 0, .str to] => onRf hp fun o L ls => K (.bool (thereL ls to).isSome) hp
  | _ => False
theorem s83 : Sound Tryz.prog 83 C83 := by
  refine sound_of_okF ok83 (Γ := [(104, C104)]) (.cons s104 (callable_of_okF ok104) .nil) ?_
  intro args hp K h
  unfold C83 at h
  split at h
  · rename_i to
    obtain ⟨o, L, ls, rfl, h⟩ := h
    refine ⟨by simp, [], ?_⟩
    unfold rfH at h ⊢
    simp (maxSteps := 2000000) only [a83, r83, C104, go_sem, eq_self, and_self, Int.natCast_pos, Int.le_refl, Nat.le_refl, Int.natCast_nonneg, Int.ofNat_lt, Int.ofNat_le, Int.reduceLT, Int.reduceLE, Int.reduceEq, Int.reduceNe, Int.reduceAdd, Int.reduceSub, Int.reduceMul, Int.reduceToNat, Int.reduceNeg, Nat.reduceEqDiff, Nat.reduceLeDiff, Nat.reduceSub, Nat.reduceMul, Nat.reduceLT, Nat.reduceBEq, Nat.reduceAdd]
    rintro _ _ m rfl c rfl
    refine sw_intro (fun hc => ?_) (fun hc => ?_)
    · have hlt : placeF ls to < ls.length := by simp at hc; omega
      refine nd_intro hlt ?_
      intro c hc
      have e : (thereL ls to).isSome = c := by
        unfold thereL
        rw [elt_get (t := LastT) hlt]
        simp only
        by_cases h : (elt LastT ls (placeF ls to)).1 = to <;> simp [h, hc]
      rw [e] at h; exact h
    · have hge : ls[placeF ls to]? = none := List.getElem?_eq_none (by simp at hc; omega)
      have e : (thereL ls to).isSome = false := by unfold thereL; rw [hge]; rfl
      rw [e] at h; exact h
  · exact h.elim

theorem there_get {ls : List LastT.den} {to : ByteArray} (h : (thereL ls to).isSome = true) : ∃ s : Int, ls[placeF ls to]? = some (to, s) ∧ thereL ls to = some s ∧ placeF ls to < ls.length := by
  unfold thereL at h ⊢
  cases hx : ls[placeF ls to]? with
  | none => rw [hx] at h; cases h
  | some x =>
    rw [hx] at h
    simp only at h ⊢
    by_cases hto : x.1 = to
    · obtain ⟨a, b⟩ := x
      simp only at hto
      subst hto
      exact ⟨b, rfl, by simp, (List.getElem?_eq_some_iff.1 hx).1⟩
    · simp [hto] at h

/-- Serial -/
def C50 : Contract := fun args hp K => match args with
  | [.ptr 0 0, .str to] => onRf hp fun o L ls => K (.int .u64 ((thereL ls to).getD (0 : Int))) hp
  | _ => False
theorem s50 : Sound Tryz.prog 50 C50 := by
  refine sound_of_okF ok50 (Γ := [(104, C104), (83, C83)]) (.cons s104 (callable_of_okF ok104) (.cons s83 (callable_of_okF ok83) .nil)) ?_
  intro args hp K h
  unfold C50 at h
  split at h
  · rename_i to
    obtain ⟨o, L, ls, rfl, h⟩ := h
    refine ⟨by simp, [], ?_⟩
    unfold rfH at h ⊢
    simp (maxSteps := 2000000) only [a50, r50, C104, C83, go_sem, eq_self, and_self, Int.natCast_pos, Int.le_refl, Nat.le_refl, Int.natCast_nonneg, Int.ofNat_lt, Int.ofNat_le, Int.reduceLT, Int.reduceLE, Int.reduceEq, Int.reduceNe, Int.reduceAdd, Int.reduceSub, Int.reduceMul, Int.reduceToNat, Int.reduceNeg, Nat.reduceEqDiff, Nat.reduceLeDiff, Nat.reduceSub, Nat.reduceMul, Nat.reduceLT, Nat.reduceBEq, Nat.reduceAdd]
    refine sw_intro (fun hc => ?_) (fun hc => ?_)
    · obtain ⟨s, hx, hs, hlt⟩ := there_get hc
      refine nd_intro hlt ?_
      rw [elt_eq (t := LastT) hx]
      rw [hs] at h
      exact h
    · have e : thereL ls to = none := by
        cases h : thereL ls to with
        | none => rfl
        | some x => rw [h] at hc; cases hc
      rw [e] at h
      exact h
  · exact h.elim

/-- set -/
def C84 : Contract := fun args hp K => match args with
  | [.ptr 0 0, .str to, .int .u64 s] => onRf hp fun o L ls => (ls.length + 1) * 24 ≤ 140737488355328 ∧ K (.tup []) (rfH false true o L (setF ls to s))
  | _ => False
theorem s84 : Sound Tryz.prog 84 C84 := by
  refine sound_of_okF ok84 (Γ := [(104, C104), (83, C83)]) (.cons s104 (callable_of_okF ok104) (.cons s83 (callable_of_okF ok83) .nil)) ?_
  intro args hp K h
  unfold C84 at h
  split at h
  · rename_i to s
    obtain ⟨o, L, ls, rfl, hb, h⟩ := h
    refine ⟨by simp, [], ?_⟩
    unfold rfH at h ⊢
    simp (maxSteps := 2000000) only [a84, r84, C104, C83, go_sem, eq_self, and_self, Int.natCast_pos, Int.le_refl, Nat.le_refl, Int.natCast_nonneg, Int.ofNat_lt, Int.ofNat_le, Int.reduceLT, Int.reduceLE, Int.reduceEq, Int.reduceNe, Int.reduceAdd, Int.reduceSub, Int.reduceMul, Int.reduceToNat, Int.reduceNeg, Nat.reduceEqDiff, Nat.reduceLeDiff, Nat.reduceSub, Nat.reduceMul, Nat.reduceLT, Nat.reduceBEq, Nat.reduceAdd]
    refine sw_intro (fun hc => ?_) (fun hc => ?_)
    · obtain ⟨s0, hx, hs, hlt⟩ := there_get hc
      refine nd_intro hlt ?_
      rw [elt_eq (t := LastT) hx]
      have e : setF ls to s = ls.set (placeF ls to) (to, s) := by unfold setF; rw [if_pos hc]
      rw [e] at h
      exact h
    · have hle := placeF_le ls to
      refine nd_intro hle ⟨id, fun _ => ⟨fun _ => ?_, fun _ => ?_⟩⟩
      · simp only [List.length_take, List.length_drop]; omega
      · refine nd_intro hle ?_
        refine ⟨fun _ _ => ?_, fun _ => ?_⟩
        · simp only [List.length_take, List.length_drop, List.length_append, List.length_cons, List.length_nil]; omega
        · have e : setF ls to s = List.take (placeF ls to - 0) (List.drop 0 ls) ++ [(to, s)] ++ List.take (ls.length - placeF ls to) (List.drop (placeF ls to) ls) := by
            unfold setF
            rw [if_neg (by simp [hc]), Nat.sub_zero, List.drop_zero, List.take_of_length_le (l := List.drop (placeF ls to) ls) (by simp)]
            simp
          rw [e] at h
          exact h
  · exact h.elim

/-- Send -/
def C25 : Contract := fun args hp K => match args with
  | [.ptr 0 0, .str to, .int .i64 kind, x] => onRf hp fun o L ls => onL (.int .i64) 8 x fun xs => L.length ≤ 100 ∧ ls.length ≤ 100 ∧
      (¬ (keyOk to = true ∧ xs.length ≤ 4) → K (.tup [.int .u64 0, .int .i64 1]) hp) ∧
      ((keyOk to = true ∧ xs.length ≤ 4) → (32 ≤ L.length ∨ (thereL ls to = none ∧ 64 ≤ ls.length)) → K (.tup [.int .u64 0, .int .i64 6]) hp) ∧
      ((keyOk to = true ∧ xs.length ≤ 4) → ¬ (32 ≤ L.length ∨ (thereL ls to = none ∧ 64 ≤ ls.length)) → ∀ s : Int, s = IntKind.u64.wrap ((thereL ls to).getD (0 : Int) + 1) → 
        K (.tup [.int .u64 s, .int .i64 0]) (rfH true true o (L ++ [(to, o, s, kind, xs)]) (setF ls to s)))
  | _ => False
theorem s25 : Sound Tryz.prog 25 C25 := by
  refine sound_of_okF ok25 (Γ := [(82, C82), (83, C83), (50, C50), (84, C84), (78, C78)]) (.cons s82 (callable_of_okF ok82) (.cons s83 (callable_of_okF ok83) (.cons s50 (callable_of_okF ok50) (.cons s84 (callable_of_okF ok84) (.cons s78 (callable_of_okF ok78) .nil))))) ?_
  intro args hp K h
  unfold C25 at h
  split at h
  · rename_i to kind x
    obtain ⟨o, L, ls, rfl, h⟩ := h
    refine ⟨by simp, [], ?_⟩
    rcases h with ⟨rfl, hL, hls, h1, h2, h3⟩ | ⟨p, xs, rfl, hL, hls, h1, h2, h3⟩
    · unfold rfH at h1 h2 h3 ⊢
      simp (maxSteps := 2000000) only [a25, r25, C82, C83, C50, C84, C78, rfH, go_sem, eq_self, and_self, Int.natCast_pos, Int.le_refl, Nat.le_refl, Int.natCast_nonneg, Int.ofNat_lt, Int.ofNat_le, Int.reduceLT, Int.reduceLE, Int.reduceEq, Int.reduceNe, Int.reduceAdd, Int.reduceSub, Int.reduceMul, Int.reduceToNat, Int.reduceNeg, Nat.reduceEqDiff, Nat.reduceLeDiff, Nat.reduceSub, Nat.reduceMul, Nat.reduceLT, Nat.reduceBEq, Nat.reduceAdd]
      refine sw_intro (fun hk => ?_) (fun hk => h1 (by simp [hk]))
      have h4 : ([] : List Int).length ≤ 4 := by simp
      rintro _ _ m rfl c rfl
      refine sw_intro (fun hc => h2 ⟨hk, h4⟩ (.inl (by simp at hc; omega))) (fun hc => ?_)
      refine sw_intro (fun hb1 => ?_) (fun hb1 => ?_)
      · rintro _ _ s hs
        refine ⟨by omega, fun _ => by omega, fun _ => h3 ⟨hk, h4⟩ ?_ s hs⟩
        rintro (h | ⟨h, _⟩)
        · simp at hc; omega
        · rw [h] at hb1; cases hb1
      · rintro _ _ m2 rfl c rfl
        refine sw_intro (fun hc2 => h2 ⟨hk, h4⟩ (.inr ⟨by simpa using hb1, by simp at hc2; omega⟩)) (fun hc2 => ?_)
        rintro _ _ s hs
        refine ⟨by omega, fun _ => by omega, fun _ => h3 ⟨hk, h4⟩ ?_ s hs⟩
        rintro (h | ⟨_, h⟩)
        · simp at hc; omega
        · simp at hc2; omega
    · unfold rfH at h1 h2 h3 ⊢
      simp (maxSteps := 2000000) only [a25, r25, C82, C83, C50, C84, C78, rfH, go_sem, eq_self, and_self, Int.natCast_pos, Int.le_refl, Nat.le_refl, Int.natCast_nonneg, Int.ofNat_lt, Int.ofNat_le, Int.reduceLT, Int.reduceLE, Int.reduceEq, Int.reduceNe, Int.reduceAdd, Int.reduceSub, Int.reduceMul, Int.reduceToNat, Int.reduceNeg, Nat.reduceEqDiff, Nat.reduceLeDiff, Nat.reduceSub, Nat.reduceMul, Nat.reduceLT, Nat.reduceBEq, Nat.reduceAdd]
      refine sw_intro (fun hk => ?_) (fun hk => h1 (by simp [hk]))
      rintro _ _ n rfl c rfl
      refine sw_intro (fun h => h1 (fun h' => by simp at h; omega)) (fun h4 => ?_)
      have h4 : xs.length ≤ 4 := by simp at h4; omega
      rintro _ _ m rfl c rfl
      refine sw_intro (fun hc => h2 ⟨hk, h4⟩ (.inl (by simp at hc; omega))) (fun hc => ?_)
      refine sw_intro (fun hb1 => ?_) (fun hb1 => ?_)
      · rintro _ _ s hs
        refine ⟨by omega, fun _ => by omega, fun _ => h3 ⟨hk, h4⟩ ?_ s hs⟩
        rintro (h | ⟨h, _⟩)
        · simp at hc; omega
        · rw [h] at hb1; cases hb1
      · rintro _ _ m2 rfl c rfl
        refine sw_intro (fun hc2 => h2 ⟨hk, h4⟩ (.inr ⟨by simpa using hb1, by simp at hc2; omega⟩)) (fun hc2 => ?_)
        rintro _ _ s hs
        refine ⟨by omega, fun _ => by omega, fun _ => h3 ⟨hk, h4⟩ ?_ s hs⟩
        rintro (h | ⟨_, h⟩)
        · simp at hc; omega
        · simp at hc2; omega
  · exact h.elim
end Go.V
