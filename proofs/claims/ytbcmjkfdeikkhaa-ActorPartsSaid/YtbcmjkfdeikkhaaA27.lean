/- A part of the proof layer, or functions of the given program in it: contracts and their proofs. -/
import Derived.Test.YtbcmjkfdeikkhaaA26
namespace Go.V
open Go.Proofs
set_option maxRecDepth 100000
set_option linter.unusedSimpArgs false
set_option linter.unnecessarySimpa false
set_option linter.unusedVariables false

def lastsE (ls : List LastT.den) : List UInt8 := ls.flatMap fun x => textB x.1 ++ numB x.2
def outR (o : ByteArray) (L : List OutT.den) (ls : List LastT.den) : List UInt8 := textB o ++ numB ls.length ++ lastsE ls ++ numB L.length ++ outsE L
theorem lastsE_snoc (ls : List LastT.den) (x : LastT.den) : lastsE (ls ++ [x]) = lastsE ls ++ textB x.1 ++ numB x.2 := by simp [lastsE]
theorem lastsE_len (ls : List LastT.den) (h : ∀ k ∈ ls, k.1.size ≤ 40) : (lastsE ls).length ≤ 58 * ls.length := by
  induction ls with
  | nil => simp [lastsE]
  | cons k r ih =>
    have ih := ih (fun y hy => h y (List.mem_cons_of_mem _ hy))
    have h1 := textB_len k.1 (h k (by simp))
    have h2 := (numB_length k.2).2
    simp only [lastsE, List.flatMap_cons, List.length_append, List.length_cons] at ih ⊢
    omega

/-- Encode, of the document -/
def C52 : Contract := fun args hp K => match args with
  | [.ptr 0 0] => onRf hp fun o L ls => OutOk o L ls ∧ K (.own 3) (rfH false false o L ls ++ [.row true 1 .byte (outR o L ls)])
  | _ => False
def L52 (o : ByteArray) (L : List OutT.den) (ls : List LastT.den) : LoopAnn := cntA (fun i => ⟨[(0, .ptr 0 0), (3, .own 3), (23, .int .i64 ls.length), (24, .int .i64 i)],
  rfH false false o L ls ++ [.row true 1 .byte (textB o ++ numB ls.length ++ lastsE (ls.take i))]⟩) ls.length
def M52 (o : ByteArray) (L : List OutT.den) (ls : List LastT.den) : LoopAnn := cntA (fun i => ⟨[(0, .ptr 0 0), (3, .own 3), (60, .int .i64 L.length), (61, .int .i64 i)],
  rfH false false o L ls ++ [.row true 1 .byte (textB o ++ numB ls.length ++ lastsE ls ++ numB L.length ++ outsE (L.take i))]⟩) L.length
theorem s52 : Sound Try.prog 52 C52 := by
  refine sound_of_okF ok52 (Γ := [(50, C50), (49, C49), (85, C85)]) (.cons s50 (callable_of_okF ok50) (.cons s49 (callable_of_okF ok49) (.cons s85 (callable_of_okF ok85) .nil))) ?_
  intro args hp K h
  unfold C52 at h
  split at h
  · obtain ⟨o, L, ls, rfl, ok, h⟩ := h
    refine ⟨by simp, [(1, L52 o L ls), (2, M52 o L ls)], ?_⟩
    unfold rfH at h ⊢
    simp (maxSteps := 2000000) only [a52, r52, C50, C49, C85, go_sem, eq_self, and_self, Int.natCast_pos, Int.le_refl, Nat.le_refl, Int.natCast_nonneg, Int.ofNat_lt, Int.ofNat_le, Int.reduceLT, Int.reduceLE, Int.reduceEq, Int.reduceNe, Int.reduceAdd, Int.reduceSub, Int.reduceMul, Int.reduceToNat, Int.reduceNeg, Nat.reduceEqDiff, Nat.reduceLeDiff, Nat.reduceSub, Nat.reduceMul, Nat.reduceLT, Nat.reduceBEq, Nat.reduceAdd]
    have b1 := textB_len o ok.o40
    have b2 := (numB_length (ls.length : Int)).2
    have b3 := (numB_length (L.length : Int)).2
    have hk : ∀ k ∈ ls, k.1.size ≤ 40 := fun k hk => ok.k40 k hk
    have b4 : ∀ i, (lastsE (ls.take i)).length ≤ 58 * 64 := fun i => by
      have h1 := lastsE_len (ls.take i) (fun k h => hk k (List.mem_of_mem_take h))
      have h2 : (ls.take i).length ≤ 64 := by have := ok.m64; rw [List.length_take]; omega
      omega
    have b5 : ∀ i, (outsE (L.take i)).length ≤ 300 * 32 := fun i => by
      have h1 := outsE_len (L.take i) (fun k h => ok.x40 k (List.mem_of_mem_take h))
      have h2 : (L.take i).length ≤ 32 := by have := ok.l32; rw [List.length_take]; omega
      omega
    have hm := ok.m64
    have hl := ok.l32
    have ho := ok.o40
    have := maxLen_val
    refine ⟨by omega, ?_⟩
    rintro _ _ n rfl _ n1 hn1
    rw [wu64 (by omega)] at hn1
    subst hn1
    refine ⟨by omega, ?_⟩
    rintro _ _ n2 rfl
    refine loop_intro (A := L52 o L ls) (0 : Nat) ?_ (Nat.zero_le _) ?_
    · simp (maxSteps := 2000000) only [L52, cntA_I, rfH, go_sem, eq_self, and_self, Int.natCast_pos, Int.le_refl, Nat.le_refl, Int.natCast_nonneg, Int.ofNat_lt, Int.ofNat_le, Int.reduceLT, Int.reduceLE, Int.reduceEq, Int.reduceNe, Int.reduceAdd, Int.reduceSub, Int.reduceMul, Int.reduceToNat, Int.reduceNeg, Nat.reduceEqDiff, Nat.reduceLeDiff, Nat.reduceSub, Nat.reduceMul, Nat.reduceLT, Nat.reduceBEq, Nat.reduceAdd]
      simp [lastsE]
    · intro (i : Nat) (hi : i ≤ ls.length)
      simp (maxSteps := 2000000) only [L52, cntA_I, rfH, C50, C49, C85, go_sem, eq_self, and_self, Int.natCast_pos, Int.le_refl, Nat.le_refl, Int.natCast_nonneg, Int.ofNat_lt, Int.ofNat_le, Int.reduceLT, Int.reduceLE, Int.reduceEq, Int.reduceNe, Int.reduceAdd, Int.reduceSub, Int.reduceMul, Int.reduceToNat, Int.reduceNeg, Nat.reduceEqDiff, Nat.reduceLeDiff, Nat.reduceSub, Nat.reduceMul, Nat.reduceLT, Nat.reduceBEq, Nat.reduceAdd]
      have hb4 := b4 i
      rintro c rfl
      refine sw_intro (fun hc => ?_) (fun hc => ?_) <;> simp only [decide_eq_true_eq, decide_eq_false_iff_not] at hc
      · have hks : ByteArray.size (elt LastT ls i).1 ≤ 40 := hk _ (List.mem_of_getElem? (elt_get hc))
        have hkt := textB_len _ hks
        refine nd_intro hc ⟨by simp only [List.length_append]; omega, nd_intro hc ⟨by simp only [List.length_append]; omega, ?_⟩⟩
        rintro _ _ n2 hn2
        rw [w64 (by omega)] at hn2
        subst hn2
        refine cntA_next hc ?_
        simp (maxSteps := 2000000) only [go_sem, eq_self, and_self, Int.natCast_pos, Int.le_refl, Nat.le_refl, Int.natCast_nonneg, Int.ofNat_lt, Int.ofNat_le, Int.reduceLT, Int.reduceLE, Int.reduceEq, Int.reduceNe, Int.reduceAdd, Int.reduceSub, Int.reduceMul, Int.reduceToNat, Int.reduceNeg, Nat.reduceEqDiff, Nat.reduceLeDiff, Nat.reduceSub, Nat.reduceMul, Nat.reduceLT, Nat.reduceBEq, Nat.reduceAdd]
        rw [← take_elt (t := LastT) hc, lastsE_snoc]
        simp only [List.append_assoc]
        rfl
      · obtain rfl : i = ls.length := by omega
        rw [List.take_length] at hb4 ⊢
        rintro _ _ n rfl _ n1 hn1
        rw [wu64 (by omega)] at hn1
        subst hn1
        refine ⟨by simp only [List.length_append]; omega, ?_⟩
        rintro _ _ n2 rfl
        refine loop_intro (A := M52 o L ls) (0 : Nat) ?_ (Nat.zero_le _) ?_
        · simp (maxSteps := 2000000) only [M52, cntA_I, rfH, go_sem, eq_self, and_self, Int.natCast_pos, Int.le_refl, Nat.le_refl, Int.natCast_nonneg, Int.ofNat_lt, Int.ofNat_le, Int.reduceLT, Int.reduceLE, Int.reduceEq, Int.reduceNe, Int.reduceAdd, Int.reduceSub, Int.reduceMul, Int.reduceToNat, Int.reduceNeg, Nat.reduceEqDiff, Nat.reduceLeDiff, Nat.reduceSub, Nat.reduceMul, Nat.reduceLT, Nat.reduceBEq, Nat.reduceAdd]
          simp [outsE]
        · intro (i : Nat) (hi : i ≤ L.length)
          simp (maxSteps := 2000000) only [M52, cntA_I, rfH, C50, C49, C85, go_sem, eq_self, and_self, Int.natCast_pos, Int.le_refl, Nat.le_refl, Int.natCast_nonneg, Int.ofNat_lt, Int.ofNat_le, Int.reduceLT, Int.reduceLE, Int.reduceEq, Int.reduceNe, Int.reduceAdd, Int.reduceSub, Int.reduceMul, Int.reduceToNat, Int.reduceNeg, Nat.reduceEqDiff, Nat.reduceLeDiff, Nat.reduceSub, Nat.reduceMul, Nat.reduceLT, Nat.reduceBEq, Nat.reduceAdd]
          have hb5 := b5 i
          rintro c rfl
          refine sw_intro (fun hc => ?_) (fun hc => ?_) <;> simp only [decide_eq_true_eq, decide_eq_false_iff_not] at hc
          · have hx := ok.x40 (elt OutT L i) (List.mem_of_getElem? (elt_get hc))
            have ht := textB_len _ hx.1
            have hb := letB_length (elt OutT L i).2
            refine nd_intro hc ⟨by simp only [List.length_append]; omega, nd_intro hc ⟨by omega, by omega, ?_⟩⟩
            rintro u rfl
            refine ⟨?_, ?_⟩
            · have hu : ∀ l : List UInt8, (⟨l.toArray⟩ : ByteArray).size = l.length := fun l => by show l.toArray.size = _; simp
              rw [hu]
              simp only [List.length_append]
              show _ + (letB (elt OutT L i).2).length ≤ _
              omega
            · rintro _ _ n2 hn2
              rw [w64 (by omega)] at hn2
              subst hn2
              refine cntA_next hc ?_
              simp (maxSteps := 2000000) only [go_sem, eq_self, and_self, Int.natCast_pos, Int.le_refl, Nat.le_refl, Int.natCast_nonneg, Int.ofNat_lt, Int.ofNat_le, Int.reduceLT, Int.reduceLE, Int.reduceEq, Int.reduceNe, Int.reduceAdd, Int.reduceSub, Int.reduceMul, Int.reduceToNat, Int.reduceNeg, Nat.reduceEqDiff, Nat.reduceLeDiff, Nat.reduceSub, Nat.reduceMul, Nat.reduceLT, Nat.reduceBEq, Nat.reduceAdd]
              rw [← take_elt (t := OutT) hc, outsE_snoc]
              simp only [List.append_assoc]
              rfl
          · obtain rfl : i = L.length := by omega
            rw [List.take_length]
            exact h
  · exact h.elim
end Go.V
