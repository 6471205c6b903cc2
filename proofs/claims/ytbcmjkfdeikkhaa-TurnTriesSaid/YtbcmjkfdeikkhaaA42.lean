/- A part of the proof layer, or functions of the given program in it: contracts and their proofs. -/
import Derived.Test.YtbcmjkfdeikkhaaA41
namespace Go.V
open Go.Proofs
set_option maxRecDepth 100000
set_option linter.unusedSimpArgs false
set_option linter.unnecessarySimpa false
set_option linter.unusedVariables false
/-! ### lists of letters; the inbox -/
def fmL (l : LetT.den) : Bool := decide (l.1.size ≤ 40) && decide (l.2.2.2.length ≤ 4)
def letsB (ls : List LetT.den) : List UInt8 := ls.flatMap letB
def packB (ls : List LetT.den) : List UInt8 := numB ls.length ++ letsB ls
def rngL (ls : List LetT.den) : Prop := ∀ x ∈ ls, in64 x.2.2.1 ∧ inI x.2.2.2
theorem fmL_iff {l : LetT.den} : fmL l = true ↔ l.1.size ≤ 40 ∧ l.2.2.2.length ≤ 4 := by simp [fmL]
theorem letsB_snoc (ls : List LetT.den) (x : LetT.den) : letsB (ls ++ [x]) = letsB ls ++ letB x := by simp [letsB]
theorem letsB_length (ls : List LetT.den) (h : ls.all fmL = true) : (letsB ls).length ≤ 112 * ls.length := by
  induction ls with
  | nil => simp [letsB]
  | cons x r ih =>
    rw [List.all_cons, Bool.and_eq_true] at h
    have h1 := letB_length x
    have h2 := fmL_iff.1 h.1
    have := ih h.2
    simp only [letsB, List.flatMap_cons, List.length_append, List.length_cons] at this ⊢
    omega
theorem packB_length (ls : List LetT.den) (h : ls.all fmL = true) : (packB ls).length ≤ 9 + 112 * ls.length := by
  have h1 := (numB_length (ls.length : Int)).2
  have h2 := letsB_length ls h
  simp only [packB, List.length_append]; omega
theorem elt_mem {t : Ty} {xs : List t.den} {i : Nat} (h : i < xs.length) : elt t xs i ∈ xs := List.mem_of_getElem? (elt_get h)

/-- Pack -/
def C39 : Contract := fun args hp K => match args, hp with
  | [.sl p 56 (.pair .str (.pair (.int .u64) (.pair (.int .i64) (.sl 8 (.int .i64))))) ls], [] => (ls : List LetT.den).length ≤ 1000 ∧
      (ls.all fmL = true → rngL ls → K (.tup [.own 0, .int .i64 0]) [.row true 1 .byte (packB ls)]) ∧
      (ls.all fmL = false → K (.tup [.own 0, .int .i64 1]) [.row true 1 .byte []])
  | _, _ => False
def L39 (p : Bool) (ls : List LetT.den) : LoopAnn := { G := Nat, I := fun i => ⟨[(4, .ptr 0 0), (13, .sl p 56 LetT ls), (14, .int .i64 ls.length), (15, .int .i64 i)], wrH true (numB ls.length ++ letsB (ls.take i))⟩, R := fun _ i => i ≤ ls.length ∧ (ls.take i).all fmL = true ∧ rngL (ls.take i), μ := fun i => ls.length - i }
theorem L39_I {p ls} (i : Nat) : (L39 p ls).I i = ⟨[(4, .ptr 0 0), (13, .sl p 56 LetT ls), (14, .int .i64 ls.length), (15, .int .i64 i)], wrH true (numB ls.length ++ letsB (ls.take i))⟩ := rfl
theorem s39 : Sound Try.prog 39 C39 := by
  refine sound_of_okF ok39 (Γ := [(40, C40), (41, C41), (64, C64), (79, C79), (46, C46)]) (.cons s40 (callable_of_okF ok40) (.cons s41 (callable_of_okF ok41) (.cons s64 (callable_of_okF ok64) (.cons s79 (callable_of_okF ok79) (.cons s46 (callable_of_okF ok46) .nil))))) ?_
  intro args hp K h
  unfold C39 at h
  split at h
  · rename_i p ls
    obtain ⟨hl, h1, h2⟩ := h
    refine ⟨by simp, [(1, L39 p ls)], ?_⟩
    simp (maxSteps := 2000000) only [a39, r39, C40, C41, wrH, go_sem, eq_self, and_self, Int.natCast_pos, Int.le_refl, Nat.le_refl, Int.natCast_nonneg, Int.ofNat_lt, Int.ofNat_le, Int.reduceLT, Int.reduceLE, Int.reduceEq, Int.reduceNe, Int.reduceAdd, Int.reduceSub, Int.reduceMul, Int.reduceToNat, Int.reduceNeg, Nat.reduceEqDiff, Nat.reduceLeDiff, Nat.reduceSub, Nat.reduceMul, Nat.reduceLT, Nat.reduceBEq, Nat.reduceAdd]
    have hmx := maxLen_val
    have b1 := (numB_length (ls.length : Int)).2
    rintro _ _ m rfl _ m1 hm1
    rw [wu64 (by omega)] at hm1
    subst hm1
    rintro _ _ m rfl
    refine loop_intro (A := L39 p ls) (0 : Nat) ?_ ⟨Nat.zero_le _, by simp, fun x hx => by simp at hx⟩ ?_
    · simp (maxSteps := 2000000) only [L39_I, wrH, go_sem, eq_self, and_self, Int.natCast_pos, Int.le_refl, Nat.le_refl, Int.natCast_nonneg, Int.ofNat_lt, Int.ofNat_le, Int.reduceLT, Int.reduceLE, Int.reduceEq, Int.reduceNe, Int.reduceAdd, Int.reduceSub, Int.reduceMul, Int.reduceToNat, Int.reduceNeg, Nat.reduceEqDiff, Nat.reduceLeDiff, Nat.reduceSub, Nat.reduceMul, Nat.reduceLT, Nat.reduceBEq, Nat.reduceAdd]
      simp [letsB]
    · intro (i : Nat) (hi : i ≤ ls.length ∧ (ls.take i).all fmL = true ∧ rngL (ls.take i))
      obtain ⟨hi, ha, hr⟩ := hi
      simp (maxSteps := 2000000) only [L39_I, C64, C79, C46, wrH, go_sem, eq_self, and_self, Int.natCast_pos, Int.le_refl, Nat.le_refl, Int.natCast_nonneg, Int.ofNat_lt, Int.ofNat_le, Int.reduceLT, Int.reduceLE, Int.reduceEq, Int.reduceNe, Int.reduceAdd, Int.reduceSub, Int.reduceMul, Int.reduceToNat, Int.reduceNeg, Nat.reduceEqDiff, Nat.reduceLeDiff, Nat.reduceSub, Nat.reduceMul, Nat.reduceLT, Nat.reduceBEq, Nat.reduceAdd]
      have b2 := letsB_length _ ha
      have b3 : (ls.take i).length ≤ 1000 := by rw [List.length_take]; omega
      rintro c rfl
      refine sw_intro (fun hc => ?_) (fun hc => ?_) <;> simp only [decide_eq_true_eq, decide_eq_false_iff_not] at hc
      · have snoc : ls.take (i + 1) = ls.take i ++ [elt LetT ls i] := (take_elt (t := LetT) hc).symm
        refine nd_intro hc (sw_intro (fun hf => ?_) (fun hf => ?_))
        · have hf2 := fmL_iff.1 hf
          refine ⟨by omega, by omega, by simp only [List.length_append]; omega, ?_⟩
          rintro hx64 _ _ m hm
          rw [w64 (by omega)] at hm
          subst hm
          refine lpE_intro (A := L39 p ls) (i + 1 : Nat) ?_ ⟨hc, ?_, ?_⟩ (by show ls.length - (i + 1) < ls.length - i; omega)
          · simp (maxSteps := 2000000) only [L39_I, wrH, go_sem, eq_self, and_self, Int.natCast_pos, Int.le_refl, Nat.le_refl, Int.natCast_nonneg, Int.ofNat_lt, Int.ofNat_le, Int.reduceLT, Int.reduceLE, Int.reduceEq, Int.reduceNe, Int.reduceAdd, Int.reduceSub, Int.reduceMul, Int.reduceToNat, Int.reduceNeg, Nat.reduceEqDiff, Nat.reduceLeDiff, Nat.reduceSub, Nat.reduceMul, Nat.reduceLT, Nat.reduceBEq, Nat.reduceAdd]
            rw [snoc, letsB_snoc]
            simp only [List.append_assoc]
            rfl
          · rw [snoc, List.all_append, ha]
            simpa [fmL] using hf2
          · intro x hx
            rw [snoc] at hx
            rcases List.mem_append.1 hx with hx | hx
            · exact hr x hx
            · simp only [List.mem_singleton] at hx
              subst hx
              exact hx64
        · refine h2 ?_
          cases ht : ls.all fmL with
          | false => rfl
          | true =>
            have := List.all_eq_true.1 ht _ (elt_mem (t := LetT) hc)
            unfold fmL at this
            rw [hf] at this
            cases this
      · obtain rfl : i = ls.length := by omega
        rw [List.take_length] at ha hr ⊢
        exact h1 ha hr
  · exact h.elim
def inH (mv : Bool) (l : List LetT.den) : List SB := [.struct [.own 1], .row mv 56 LetT l]
def onIn (hp : List SB) (k : List LetT.den → Prop) : Prop := ∃ l, hp = inH false l ∧ k l
@[go_sem] theorem onIn_eq {l k} : onIn [.struct [.own 1], .row false 56 (.pair .str (.pair (.int .u64) (.pair (.int .i64) (.sl 8 (.int .i64))))) (no_index l)] k = k l := by
  apply propext; constructor
  · rintro ⟨l', h, hk⟩
    unfold inH at h
    cases h
    exact hk
  · exact fun h => ⟨l, rfl, h⟩
def C18 : Contract := fun args hp K => match args, hp with
  | [], [] => K (.ptr 0 0) (inH true [])
  | _, _ => False
theorem s18 : Sound Try.prog 18 C18 := by
  refine sound_of_okF ok18 (Γ := []) .nil ?_
  intro args hp K h
  unfold C18 at h
  split at h
  · refine ⟨by simp, [], ?_⟩
    unfold inH at h
    simp (maxSteps := 2000000) only [a18, r18, go_sem, eq_self, and_self, Int.natCast_pos, Int.le_refl, Nat.le_refl, Int.natCast_nonneg, Int.ofNat_lt, Int.ofNat_le, Int.reduceLT, Int.reduceLE, Int.reduceEq, Int.reduceNe, Int.reduceAdd, Int.reduceSub, Int.reduceMul, Int.reduceToNat, Int.reduceNeg, Nat.reduceEqDiff, Nat.reduceLeDiff, Nat.reduceSub, Nat.reduceMul, Nat.reduceLT, Nat.reduceBEq, Nat.reduceAdd]
    exact h
  · exact h.elim
def C25 : Contract := fun args hp K => match args with
  | [.ptr 0 0] => onIn hp fun l => l.length ≤ 1000 ∧ K (.int .i64 l.length) hp
  | _ => False
theorem s25 : Sound Try.prog 25 C25 := by
  refine sound_of_okF ok25 (Γ := []) .nil ?_
  intro args hp K h
  unfold C25 at h
  split at h
  · obtain ⟨l, rfl, hl, h⟩ := h
    refine ⟨by simp, [], ?_⟩
    unfold inH at h ⊢
    simp (maxSteps := 2000000) only [a25, r25, go_sem, eq_self, and_self, Int.natCast_pos, Int.le_refl, Nat.le_refl, Int.natCast_nonneg, Int.ofNat_lt, Int.ofNat_le, Int.reduceLT, Int.reduceLE, Int.reduceEq, Int.reduceNe, Int.reduceAdd, Int.reduceSub, Int.reduceMul, Int.reduceToNat, Int.reduceNeg, Nat.reduceEqDiff, Nat.reduceLeDiff, Nat.reduceSub, Nat.reduceMul, Nat.reduceLT, Nat.reduceBEq, Nat.reduceAdd]
    rintro _ _ m rfl
    exact h
  · exact h.elim
/-- Push -/
def C24 : Contract := fun args hp K => match args with
  | [.ptr 0 0, .agg [.str f, .int .u64 s, .int .i64 k, x]] => onIn hp fun l => onL (.int .i64) 8 x fun xs => l.length ≤ 8 ∧
      (fmL (f, s, k, xs) = false → K (.int .i64 1) hp) ∧
      (fmL (f, s, k, xs) = true → 8 ≤ l.length → K (.int .i64 7) hp) ∧
      (fmL (f, s, k, xs) = true → l.length < 8 → K (.int .i64 0) (inH true (l ++ [(f, s, k, xs)])))
  | _ => False
theorem s24 : Sound Try.prog 24 C24 := by
  refine sound_of_okF ok24 (Γ := [(64, C64), (65, C65)]) (.cons s64 (callable_of_okF ok64) (.cons s65 (callable_of_okF ok65) .nil)) ?_
  intro args hp K h
  unfold C24 at h
  split at h
  · rename_i f s k x
    obtain ⟨l, rfl, h⟩ := h
    refine ⟨by simp, [], ?_⟩
    rcases h with ⟨rfl, hl, h1, h2, h3⟩ | ⟨p, xs, rfl, hl, h1, h2, h3⟩
    · unfold inH at h1 h2 h3 ⊢
      simp (maxSteps := 2000000) only [a24, r24, C64, C65, go_sem, eq_self, and_self, Int.natCast_pos, Int.le_refl, Nat.le_refl, Int.natCast_nonneg, Int.ofNat_lt, Int.ofNat_le, Int.reduceLT, Int.reduceLE, Int.reduceEq, Int.reduceNe, Int.reduceAdd, Int.reduceSub, Int.reduceMul, Int.reduceToNat, Int.reduceNeg, Nat.reduceEqDiff, Nat.reduceLeDiff, Nat.reduceSub, Nat.reduceMul, Nat.reduceLT, Nat.reduceBEq, Nat.reduceAdd]
      have hmx := maxLen_val
      refine sw_intro (fun hf => ?_) (fun hf => h1 (by simpa [fmL] using hf))
      have hf2 : fmL (f, s, k, []) = true := by simpa [fmL] using hf
      rintro _ _ m rfl c rfl
      refine sw_intro (fun hc => ?_) (fun hc => ?_) <;> simp only [decide_eq_true_eq, decide_eq_false_iff_not] at hc
      · exact h2 hf2 (by omega)
      · exact ⟨fun _ => by omega, fun _ => h3 hf2 (by omega)⟩
    · unfold inH at h1 h2 h3 ⊢
      simp (maxSteps := 2000000) only [a24, r24, C64, C65, go_sem, eq_self, and_self, Int.natCast_pos, Int.le_refl, Nat.le_refl, Int.natCast_nonneg, Int.ofNat_lt, Int.ofNat_le, Int.reduceLT, Int.reduceLE, Int.reduceEq, Int.reduceNe, Int.reduceAdd, Int.reduceSub, Int.reduceMul, Int.reduceToNat, Int.reduceNeg, Nat.reduceEqDiff, Nat.reduceLeDiff, Nat.reduceSub, Nat.reduceMul, Nat.reduceLT, Nat.reduceBEq, Nat.reduceAdd]
      have hmx := maxLen_val
      refine sw_intro (fun hf => ?_) (fun hf => h1 (by simpa [fmL] using hf))
      have hf2 : fmL (f, s, k, xs) = true := by simpa [fmL] using hf
      rintro _ _ m rfl c rfl
      refine sw_intro (fun hc => ?_) (fun hc => ?_) <;> simp only [decide_eq_true_eq, decide_eq_false_iff_not] at hc
      · exact h2 hf2 (by omega)
      · exact ⟨fun _ => by omega, fun _ => h3 hf2 (by omega)⟩
  · exact h.elim
/-- Encode -/
def C43 : Contract := fun args hp K => match args with
  | [.ptr 0 0] => onIn hp fun l => l.length ≤ 8 ∧ l.all fmL = true ∧ (rngL l → K (.own 2) (inH false l ++ [.row true 1 .byte (packB l)]))
  | _ => False
theorem s43 : Sound Try.prog 43 C43 := by
  refine sound_of_okF ok43 (Γ := [(39, C39)]) (.cons s39 (callable_of_okF ok39) .nil) ?_
  intro args hp K h
  unfold C43 at h
  split at h
  · obtain ⟨l, rfl, hl, ha, h⟩ := h
    refine ⟨by simp, [], ?_⟩
    unfold inH at h ⊢
    simp (maxSteps := 2000000) only [a43, r43, C39, go_sem, eq_self, and_self, Int.natCast_pos, Int.le_refl, Nat.le_refl, Int.natCast_nonneg, Int.ofNat_lt, Int.ofNat_le, Int.reduceLT, Int.reduceLE, Int.reduceEq, Int.reduceNe, Int.reduceAdd, Int.reduceSub, Int.reduceMul, Int.reduceToNat, Int.reduceNeg, Nat.reduceEqDiff, Nat.reduceLeDiff, Nat.reduceSub, Nat.reduceMul, Nat.reduceLT, Nat.reduceBEq, Nat.reduceAdd]
    exact ⟨rfl, by omega, fun _ => h, fun h9 => by rw [ha] at h9; cases h9⟩
  · exact h.elim
end Go.V
