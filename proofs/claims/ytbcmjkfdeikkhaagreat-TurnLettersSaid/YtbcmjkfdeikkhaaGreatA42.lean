/- A part of the proof layer, or functions of the given program in it: contracts and their proofs. -/
import Derived.Test.YtbcmjkfdeikkhaaGreatA41
namespace Go.V
open Go.Proofs
set_option maxRecDepth 100000
set_option linter.unusedSimpArgs false
set_option linter.unnecessarySimpa false
set_option linter.unusedVariables false
/-! ### lists of letters; the inbox -/
def fmL (l : LetT.den) : Bool := decide (l.1.size ≤ 40) && decide (l.2.2.2.length ≤ 4)
def letsB (ls : List LetT.den) : List UInt8 := ls.flatMap letB
def packB (ls : List LetT.den) : List UInt8 := numB ls.length ++ letsB ls
def rngL (ls : List LetT.den) : Prop := ∀ x ∈ ls, in64 x.2.2.1 ∧ inI x.2.2.2
theorem fmL_iff {l : LetT.den} : fmL l = true ↔ l.1.size ≤ 40 ∧ l.2.2.2.length ≤ 4 := by simp [fmL]
theorem letsB_snoc (ls : List LetT.den) (x : LetT.den) : letsB (ls ++ [x]) = letsB ls ++ letB x := by simp [letsB]
theorem letsB_length (ls : List LetT.den) (h : ls.all fmL = true) : (letsB ls).length ≤ 112 * ls.length := by
  induction ls with
  | nil => simp [letsB]
  | cons x r ih =>
    rw [List.all_cons, Bool.and_eq_true] at h
    have h1 := letB_length x
    have h2 := fmL_iff.1 h.1
    have := ih h.2
    simp only [letsB, List.flatMap_cons, List.length_append, List.length_cons] at this ⊢
    omega
theorem packB_length (ls : List LetT.den) (h : ls.all fmL = true) : (packB ls).length ≤ 9 + 112 * ls.length := by
  have h1 := (numB_length (ls.length : Int)).2
  have h2 := letsB_length ls h
  simp only [packB, List.length_append]; omega
theorem elt_mem {t : Ty} {xs : List t.den} {i : Nat} (h : i < xs.length) : elt t xs i ∈ xs := List.mem_of_getElem? (elt_get h)

/-- Pack -/
def C57 : Contract := fun args hp K => match args, hp with
  | [.sl p 56 (.pair .str (.pair (.int .u64) (.pair (.int .i64) (.sl 8 (.int .i64))))) ls], [] => (ls : List LetT.den).length ≤ 1000 ∧
      (ls.all fmL = true → rngL ls → K (.tup [.own 0, .int .i64 0]) [.row true 1 .byte (packB ls)]) ∧
      (ls.all fmL = false → K (.tup [.own 0, .int .i64 1]) [.row true 1 .byte []])
  | _, _ => False
def L57 (p : Bool) (ls : List LetT.den) : LoopAnn := { G := Nat, I := fun i => ⟨[(4, .ptr 0 0), (13, .sl p 56 LetT ls), (14, .int .i64 ls.length), (15, .int .i64 i)], wrH true (numB ls.length ++ letsB (ls.take i))⟩, R := fun _ i => i ≤ ls.length ∧ (ls.take i).all fmL = true ∧ rngL (ls.take i), μ := fun i => ls.length - i }
theorem L57_I {p ls} (i : Nat) : (L57 p ls).I i = ⟨[(4, .ptr 0 0), (13, .sl p 56 LetT ls), (14, .int .i64 ls.length), (15, .int .i64 i)], wrH true (numB ls.length ++ letsB (ls.take i))⟩ := rfl
theorem s57 : Sound Tryz.prog 57 C57 := by
  refine sound_of_okF ok57 (Γ := [(58, C58), (59, C59), (74, C74), (106, C106), (63, C63)]) (.cons s58 (callable_of_okF ok58) (.cons s59 (callable_of_okF ok59) (.cons s74 (callable_of_okF ok74) (.cons s106 (callable_of_okF ok106) (.cons s63 (callable_of_okF ok63) .nil))))) ?_
  intro args hp K h
  unfold C57 at h
  split at h
  · rename_i p ls
    obtain ⟨hl, h1, h2⟩ := h
    refine ⟨by simp, [(1, L57 p ls)], ?_⟩
    simp (maxSteps := 2000000) only [a57, r57, C58, C59, wrH, go_sem, eq_self, and_self, Int.natCast_pos, Int.le_refl, Nat.le_refl, Int.natCast_nonneg, Int.ofNat_lt, Int.ofNat_le, Int.reduceLT, Int.reduceLE, Int.reduceEq, Int.reduceNe, Int.reduceAdd, Int.reduceSub, Int.reduceMul, Int.reduceToNat, Int.reduceNeg, Nat.reduceEqDiff, Nat.reduceLeDiff, Nat.reduceSub, Nat.reduceMul, Nat.reduceLT, Nat.reduceBEq, Nat.reduceAdd]
    have hmx := maxLen_val
    have b1 := (numB_length (ls.length : Int)).2
    rintro _ _ m rfl _ m1 hm1
    rw [wu64 (by omega)] at hm1
    subst hm1
    rintro _ _ m rfl
    refine loop_intro (A := L57 p ls) (0 : Nat) ?_ ⟨Nat.zero_le _, by simp, fun x hx => by simp at hx⟩ ?_
    · simp (maxSteps := 2000000) only [L57_I, wrH, go_sem, eq_self, and_self, Int.natCast_pos, Int.le_refl, Nat.le_refl, Int.natCast_nonneg, Int.ofNat_lt, Int.ofNat_le, Int.reduceLT, Int.reduceLE, Int.reduceEq, Int.reduceNe, Int.reduceAdd, Int.reduceSub, Int.reduceMul, Int.reduceToNat, Int.reduceNeg, Nat.reduceEqDiff, Nat.reduceLeDiff, Nat.reduceSub, Nat.reduceMul, Nat.reduceLT, Nat.reduceBEq, Nat.reduceAdd]
      simp [letsB]
    · intro (i : Nat) (hi : i ≤ ls.length ∧ (ls.take i).all fmL = true ∧ rngL (ls.take i))
      obtain ⟨hi, ha, hr⟩ := hi
      simp (maxSteps := 2000000) only [L57_I, C74, C106, C63, wrH, go_sem, eq_self, and_self, Int.natCast_pos, Int.le_refl, Nat.le_refl, Int.natCast_nonneg, Int.ofNat_lt, Int.ofNat_le, Int.reduceLT, Int.reduceLE, Int.reduceEq, Int.reduceNe, Int.reduceAdd, Int.reduceSub, Int.reduceMul, Int.reduceToNat, Int.reduceNeg, Nat.reduceEqDiff, Nat.reduceLeDiff, Nat.reduceSub, Nat.reduceMul, Nat.reduceLT, Nat.reduceBEq, Nat.reduceAdd]
      have b2 := letsB_length _ ha
      have b3 : (ls.take i).length ≤ 1000 := by rw [List.length_take]; omega
      rintro c rfl
      refine sw_intro (fun hc => ?_) (fun hc => ?_) <;> simp only [decide_eq_true_eq, decide_eq_false_iff_not] at hc
      · have snoc : ls.take (i + 1) = ls.take i ++ [elt LetT ls i] := (take_elt (t := LetT) hc).symm
        refine nd_intro hc (sw_intro (fun hf => ?_) (fun hf => ?_))
        · have hf2 := fmL_iff.1 hf
          refine ⟨by omega, by omega, by simp only [List.length_append]; omega, ?_⟩
          rintro hx64 _ _ m hm
          rw [w64 (by omega)] at hm
          subst hm
          refine lpE_intro (A := L57 p ls) (i + 1 : Nat) ?_ ⟨hc, ?_, ?_⟩ (by show ls.length - (i + 1) < ls.length - i; omega)
          · simp (maxSteps := 2000000) only [L57_I, wrH, go_sem, eq_self, and_self, Int.natCast_pos, Int.le_refl, Nat.le_refl, Int.natCast_nonneg, Int.ofNat_lt, Int.ofNat_le, Int.reduceLT, Int.reduceLE, Int.reduceEq, Int.reduceNe, Int.reduceAdd, Int.reduceSub, Int.reduceMul, Int.reduceToNat, Int.reduceNeg, Nat.reduceEqDiff, Nat.reduceLeDiff, Nat.reduceSub, Nat.reduceMul, Nat.reduceLT, Nat.reduceBEq, Nat.reduceAdd]
            rw [snoc, letsB_snoc]
            simp only [List.append_assoc]
            rfl
          · rw [snoc, List.all_append, ha]
            simpa [fmL] using hf2
          · intro x hx
            rw [snoc] at hx
            rcases List.mem_append.1 hx with hx | hx
            · exact hr x hx
            · simp only [List.mem_singleton] at hx
              subst hx
              exact hx64
        · refine h2 ?_
          cases ht : ls.all fmL with
          | false => rfl
          | true =>
            have := List.all_eq_true.1 ht _ (elt_mem (t := LetT) hc)
            unfold fmL at this
            rw [hf] at this
            cases this
      · obtain rfl : i = ls.length := by omega
        rw [List.take_length] at ha hr ⊢
        exact h1 ha hr
  · exact h.elim
/-- CopyAll -/
def C28 : Contract := fun args hp K => match args, hp with
  | [.sl p 56 (.pair .str (.pair (.int .u64) (.pair (.int .i64) (.sl 8 (.int .i64))))) ls], [] => 0 ≤ (ls : List LetT.den).length ∧ K (.own 0) [.row true 56 LetT ls]
  | _, _ => False
def L28 (p : Bool) (ls : List LetT.den) : LoopAnn := cntA (fun i => ⟨[(0, .sl p 56 LetT ls), (3, .own 0), (6, .int .i64 ls.length), (7, .int .i64 i)], [.row true 56 LetT (ls.take i)]⟩) ls.length
theorem s28 : Sound Tryz.prog 28 C28 := by
  refine sound_of_okF ok28 (Γ := [(78, C78)]) (.cons s78 (callable_of_okF ok78) .nil) ?_
  intro args hp K h
  unfold C28 at h
  split at h
  · rename_i p ls
    obtain ⟨hl, h⟩ := h
    refine ⟨by simp, [(1, L28 p ls)], ?_⟩
    simp (maxSteps := 2000000) only [a28, r28, go_sem, eq_self, and_self, Int.natCast_pos, Int.le_refl, Nat.le_refl, Int.natCast_nonneg, Int.ofNat_lt, Int.ofNat_le, Int.reduceLT, Int.reduceLE, Int.reduceEq, Int.reduceNe, Int.reduceAdd, Int.reduceSub, Int.reduceMul, Int.reduceToNat, Int.reduceNeg, Nat.reduceEqDiff, Nat.reduceLeDiff, Nat.reduceSub, Nat.reduceMul, Nat.reduceLT, Nat.reduceBEq, Nat.reduceAdd]
    have hmx := maxLen_val
    rintro _ _ m rfl
    refine loop_intro (A := L28 p ls) (0 : Nat) ?_ (Nat.zero_le _) ?_
    · simp (maxSteps := 2000000) only [L28, cntA_I, go_sem, eq_self, and_self, Int.natCast_pos, Int.le_refl, Nat.le_refl, Int.natCast_nonneg, Int.ofNat_lt, Int.ofNat_le, Int.reduceLT, Int.reduceLE, Int.reduceEq, Int.reduceNe, Int.reduceAdd, Int.reduceSub, Int.reduceMul, Int.reduceToNat, Int.reduceNeg, Nat.reduceEqDiff, Nat.reduceLeDiff, Nat.reduceSub, Nat.reduceMul, Nat.reduceLT, Nat.reduceBEq, Nat.reduceAdd]
      rfl
    · intro (i : Nat) (hi : i ≤ ls.length)
      simp (maxSteps := 2000000) only [L28, cntA_I, C78, go_sem, eq_self, and_self, Int.natCast_pos, Int.le_refl, Nat.le_refl, Int.natCast_nonneg, Int.ofNat_lt, Int.ofNat_le, Int.reduceLT, Int.reduceLE, Int.reduceEq, Int.reduceNe, Int.reduceAdd, Int.reduceSub, Int.reduceMul, Int.reduceToNat, Int.reduceNeg, Nat.reduceEqDiff, Nat.reduceLeDiff, Nat.reduceSub, Nat.reduceMul, Nat.reduceLT, Nat.reduceBEq, Nat.reduceAdd]
      rintro c rfl
      refine sw_intro (fun hc => ?_) (fun hc => ?_) <;> simp only [decide_eq_true_eq, decide_eq_false_iff_not] at hc
      · have hl2 : (ls.take i).length = i := by rw [List.length_take]; omega
        rw [hl2]
        refine nd_intro hc ⟨fun _ => by omega, ?_⟩
        rintro _ _ _ m hm
        rw [w64 (by omega)] at hm
        subst hm
        refine cntA_next hc ?_
        simp (maxSteps := 2000000) only [go_sem, eq_self, and_self, Int.natCast_pos, Int.le_refl, Nat.le_refl, Int.natCast_nonneg, Int.ofNat_lt, Int.ofNat_le, Int.reduceLT, Int.reduceLE, Int.reduceEq, Int.reduceNe, Int.reduceAdd, Int.reduceSub, Int.reduceMul, Int.reduceToNat, Int.reduceNeg, Nat.reduceEqDiff, Nat.reduceLeDiff, Nat.reduceSub, Nat.reduceMul, Nat.reduceLT, Nat.reduceBEq, Nat.reduceAdd]
        rw [← take_elt (t := LetT) hc]
        rfl
      · obtain rfl : i = ls.length := by omega
        rw [List.take_length]
        exact h
  · exact h.elim

def inH (mv : Bool) (l : List LetT.den) : List SB := [.struct [.own 1], .row mv 56 LetT l]
def onIn (hp : List SB) (k : List LetT.den → Prop) : Prop := ∃ l, hp = inH false l ∧ k l
@[go_sem] theorem onIn_eq {l k} : onIn [.struct [.own 1], .row false 56 (.pair .str (.pair (.int .u64) (.pair (.int .i64) (.sl 8 (.int .i64))))) (no_index l)] k = k l := by
  apply propext; constructor
  · rintro ⟨l', h, hk⟩
    unfold inH at h
    cases h
    exact hk
  · exact fun h => ⟨l, rfl, h⟩
def C73 : Contract := fun args hp K => match args, hp with
  | [], [] => K (.ptr 0 0) (inH true [])
  | _, _ => False
theorem s73 : Sound Tryz.prog 73 C73 := by
  refine sound_of_okF ok73 (Γ := []) .nil ?_
  intro args hp K h
  unfold C73 at h
  split at h
  · refine ⟨by simp, [], ?_⟩
    unfold inH at h
    simp (maxSteps := 2000000) only [a73, r73, go_sem, eq_self, and_self, Int.natCast_pos, Int.le_refl, Nat.le_refl, Int.natCast_nonneg, Int.ofNat_lt, Int.ofNat_le, Int.reduceLT, Int.reduceLE, Int.reduceEq, Int.reduceNe, Int.reduceAdd, Int.reduceSub, Int.reduceMul, Int.reduceToNat, Int.reduceNeg, Nat.reduceEqDiff, Nat.reduceLeDiff, Nat.reduceSub, Nat.reduceMul, Nat.reduceLT, Nat.reduceBEq, Nat.reduceAdd]
    exact h
  · exact h.elim
def C11 : Contract := fun args hp K => match args with
  | [.ptr 0 0] => onIn hp fun l => l.length ≤ 1000 ∧ K (.int .i64 l.length) hp
  | _ => False
theorem s11 : Sound Tryz.prog 11 C11 := by
  refine sound_of_okF ok11 (Γ := []) .nil ?_
  intro args hp K h
  unfold C11 at h
  split at h
  · obtain ⟨l, rfl, hl, h⟩ := h
    refine ⟨by simp, [], ?_⟩
    unfold inH at h ⊢
    simp (maxSteps := 2000000) only [a11, r11, go_sem, eq_self, and_self, Int.natCast_pos, Int.le_refl, Nat.le_refl, Int.natCast_nonneg, Int.ofNat_lt, Int.ofNat_le, Int.reduceLT, Int.reduceLE, Int.reduceEq, Int.reduceNe, Int.reduceAdd, Int.reduceSub, Int.reduceMul, Int.reduceToNat, Int.reduceNeg, Nat.reduceEqDiff, Nat.reduceLeDiff, Nat.reduceSub, Nat.reduceMul, Nat.reduceLT, Nat.reduceBEq, Nat.reduceAdd]
    rintro _ _ m rfl
    exact h
  · exact h.elim
/-- Push -/
def C19 : Contract := fun args hp K => match args with
  | [.ptr 0 0, .agg [.str f, .int .u64 s, .int .i64 k, x]] => onIn hp fun l => onL (.int .i64) 8 x fun xs => l.length ≤ 8 ∧
      (fmL (f, s, k, xs) = false → K (.int .i64 1) hp) ∧
      (fmL (f, s, k, xs) = true → 8 ≤ l.length → K (.int .i64 7) hp) ∧
      (fmL (f, s, k, xs) = true → l.length < 8 → K (.int .i64 0) (inH true (l ++ [(f, s, k, xs)])))
  | _ => False
theorem s19 : Sound Tryz.prog 19 C19 := by
  refine sound_of_okF ok19 (Γ := [(74, C74), (75, C75)]) (.cons s74 (callable_of_okF ok74) (.cons s75 (callable_of_okF ok75) .nil)) ?_
  intro args hp K h
  unfold C19 at h
  split at h
  · rename_i f s k x
    obtain ⟨l, rfl, h⟩ := h
    refine ⟨by simp, [], ?_⟩
    rcases h with ⟨rfl, hl, h1, h2, h3⟩ | ⟨p, xs, rfl, hl, h1, h2, h3⟩
    · unfold inH at h1 h2 h3 ⊢
      simp (maxSteps := 2000000) only [a19, r19, C74, C75, go_sem, eq_self, and_self, Int.natCast_pos, Int.le_refl, Nat.le_refl, Int.natCast_nonneg, Int.ofNat_lt, Int.ofNat_le, Int.reduceLT, Int.reduceLE, Int.reduceEq, Int.reduceNe, Int.reduceAdd, Int.reduceSub, Int.reduceMul, Int.reduceToNat, Int.reduceNeg, Nat.reduceEqDiff, Nat.reduceLeDiff, Nat.reduceSub, Nat.reduceMul, Nat.reduceLT, Nat.reduceBEq, Nat.reduceAdd]
      have hmx := maxLen_val
      refine sw_intro (fun hf => ?_) (fun hf => h1 (by simpa [fmL] using hf))
      have hf2 : fmL (f, s, k, []) = true := by simpa [fmL] using hf
      rintro _ _ m rfl c rfl
      refine sw_intro (fun hc => ?_) (fun hc => ?_) <;> simp only [decide_eq_true_eq, decide_eq_false_iff_not] at hc
      · exact h2 hf2 (by omega)
      · exact ⟨fun _ => by omega, fun _ => h3 hf2 (by omega)⟩
    · unfold inH at h1 h2 h3 ⊢
      simp (maxSteps := 2000000) only [a19, r19, C74, C75, go_sem, eq_self, and_self, Int.natCast_pos, Int.le_refl, Nat.le_refl, Int.natCast_nonneg, Int.ofNat_lt, Int.ofNat_le, Int.reduceLT, Int.reduceLE, Int.reduceEq, Int.reduceNe, Int.reduceAdd, Int.reduceSub, Int.reduceMul, Int.reduceToNat, Int.reduceNeg, Nat.reduceEqDiff, Nat.reduceLeDiff, Nat.reduceSub, Nat.reduceMul, Nat.reduceLT, Nat.reduceBEq, Nat.reduceAdd]
      have hmx := maxLen_val
      refine sw_intro (fun hf => ?_) (fun hf => h1 (by simpa [fmL] using hf))
      have hf2 : fmL (f, s, k, xs) = true := by simpa [fmL] using hf
      rintro _ _ m rfl c rfl
      refine sw_intro (fun hc => ?_) (fun hc => ?_) <;> simp only [decide_eq_true_eq, decide_eq_false_iff_not] at hc
      · exact h2 hf2 (by omega)
      · exact ⟨fun _ => by omega, fun _ => h3 hf2 (by omega)⟩
  · exact h.elim
/-- Push, of the document -/
def C23 : Contract := C19
theorem s23 : Sound Tryz.prog 23 C23 := by
  refine sound_of_okF ok23 (Γ := [(77, C77), (78, C78)]) (.cons s77 (callable_of_okF ok77) (.cons s78 (callable_of_okF ok78) .nil)) ?_
  intro args hp K h
  unfold C23 C19 at h
  split at h
  · rename_i f s k x
    obtain ⟨l, rfl, h⟩ := h
    refine ⟨by simp, [], ?_⟩
    rcases h with ⟨rfl, hl, h1, h2, h3⟩ | ⟨p, xs, rfl, hl, h1, h2, h3⟩
    · unfold inH at h1 h2 h3 ⊢
      simp (maxSteps := 2000000) only [a23, r23, C77, C74, C78, go_sem, eq_self, and_self, Int.natCast_pos, Int.le_refl, Nat.le_refl, Int.natCast_nonneg, Int.ofNat_lt, Int.ofNat_le, Int.reduceLT, Int.reduceLE, Int.reduceEq, Int.reduceNe, Int.reduceAdd, Int.reduceSub, Int.reduceMul, Int.reduceToNat, Int.reduceNeg, Nat.reduceEqDiff, Nat.reduceLeDiff, Nat.reduceSub, Nat.reduceMul, Nat.reduceLT, Nat.reduceBEq, Nat.reduceAdd]
      have hmx := maxLen_val
      refine sw_intro (fun hf => ?_) (fun hf => h1 (by simpa [fmL] using hf))
      have hf2 : fmL (f, s, k, []) = true := by simpa [fmL] using hf
      rintro _ _ m rfl c rfl
      refine sw_intro (fun hc => ?_) (fun hc => ?_) <;> simp only [decide_eq_true_eq, decide_eq_false_iff_not] at hc
      · exact h2 hf2 (by omega)
      · exact ⟨fun _ => by omega, fun _ => h3 hf2 (by omega)⟩
    · unfold inH at h1 h2 h3 ⊢
      simp (maxSteps := 2000000) only [a23, r23, C77, C74, C78, go_sem, eq_self, and_self, Int.natCast_pos, Int.le_refl, Nat.le_refl, Int.natCast_nonneg, Int.ofNat_lt, Int.ofNat_le, Int.reduceLT, Int.reduceLE, Int.reduceEq, Int.reduceNe, Int.reduceAdd, Int.reduceSub, Int.reduceMul, Int.reduceToNat, Int.reduceNeg, Nat.reduceEqDiff, Nat.reduceLeDiff, Nat.reduceSub, Nat.reduceMul, Nat.reduceLT, Nat.reduceBEq, Nat.reduceAdd]
      have hmx := maxLen_val
      refine sw_intro (fun hf => ?_) (fun hf => h1 (by simpa [fmL] using hf))
      have hf2 : fmL (f, s, k, xs) = true := by simpa [fmL] using hf
      rintro _ _ m rfl c rfl
      refine sw_intro (fun hc => ?_) (fun hc => ?_) <;> simp only [decide_eq_true_eq, decide_eq_false_iff_not] at hc
      · exact h2 hf2 (by omega)
      · exact ⟨fun _ => by omega, fun _ => h3 hf2 (by omega)⟩
  · exact h.elim
/-- Encode -/
def C61 : Contract := fun args hp K => match args with
  | [.ptr 0 0] => onIn hp fun l => l.length ≤ 8 ∧ l.all fmL = true ∧ (rngL l → K (.own 2) (inH false l ++ [.row true 1 .byte (packB l)]))
  | _ => False
theorem s61 : Sound Tryz.prog 61 C61 := by
  refine sound_of_okF ok61 (Γ := [(57, C57)]) (.cons s57 (callable_of_okF ok57) .nil) ?_
  intro args hp K h
  unfold C61 at h
  split at h
  · obtain ⟨l, rfl, hl, ha, h⟩ := h
    refine ⟨by simp, [], ?_⟩
    unfold inH at h ⊢
    simp (maxSteps := 2000000) only [a61, r61, C57, go_sem, eq_self, and_self, Int.natCast_pos, Int.le_refl, Nat.le_refl, Int.natCast_nonneg, Int.ofNat_lt, Int.ofNat_le, Int.reduceLT, Int.reduceLE, Int.reduceEq, Int.reduceNe, Int.reduceAdd, Int.reduceSub, Int.reduceMul, Int.reduceToNat, Int.reduceNeg, Nat.reduceEqDiff, Nat.reduceLeDiff, Nat.reduceSub, Nat.reduceMul, Nat.reduceLT, Nat.reduceBEq, Nat.reduceAdd]
    exact ⟨rfl, by omega, fun _ => h, fun h9 => by rw [ha] at h9; cases h9⟩
  · exact h.elim
end Go.V
