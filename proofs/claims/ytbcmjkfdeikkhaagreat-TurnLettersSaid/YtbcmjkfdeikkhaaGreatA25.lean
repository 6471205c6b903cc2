/- A part of the proof layer, or functions of the given program in it: contracts and their proofs. -/
import Derived.Test.YtbcmjkfdeikkhaaGreatA24
import Derived.Test.YtbcmjkfdeikkhaaGreatR2
namespace Go.V
open Go.Proofs
set_option maxRecDepth 100000
set_option linter.unusedSimpArgs false
set_option linter.unnecessarySimpa false
set_option linter.unusedVariables false
def keysE (m : List (ByteArray × Int)) (ks : List ByteArray) : List UInt8 := ks.flatMap fun k => textB k ++ numB ((lookM .str (.int .u64) m k).getD (0 : Int))
def outsE (l : List OutT.den) : List UInt8 := l.flatMap fun x => textB x.1 ++ textB ⟨(letB x.2).toArray⟩
def outE (o : ByteArray) (l : List OutT.den) (m : List (ByteArray × Int)) : List UInt8 :=
  textB o ++ numB m.length ++ keysE m (srtK (vt := .int .u64) m) ++ numB l.length ++ outsE l
/-- What an outbox may hold. -/
structure OutOk (o : ByteArray) (l : List OutT.den) (m : List (ByteArray × Int)) : Prop where
  o0 : o ≠ ByteArray.empty
  o40 : o.size ≤ 40
  m64 : m.length ≤ 64
  k40 : ∀ y ∈ m, y.1.size ≤ 40
  l32 : l.length ≤ 32
  x40 : ∀ y ∈ l, y.1.size ≤ 40 ∧ y.2.1.size ≤ 40 ∧ y.2.2.2.2.length ≤ 4
theorem textB_len (s : ByteArray) (h : s.size ≤ 40) : (textB s).length ≤ 49 := by have := textB_length s; omega
theorem keysE_snoc (m : List (ByteArray × Int)) (ks : List ByteArray) (k : ByteArray) : keysE m (ks ++ [k]) = keysE m ks ++ textB k ++ numB ((lookM .str (.int .u64) m k).getD (0 : Int)) := by simp [keysE]
theorem outsE_snoc (l : List OutT.den) (x : OutT.den) : outsE (l ++ [x]) = outsE l ++ textB x.1 ++ textB ⟨(letB x.2).toArray⟩ := by simp [outsE]
theorem keysE_len (m : List (ByteArray × Int)) (ks : List ByteArray) (h : ∀ k ∈ ks, k.size ≤ 40) : (keysE m ks).length ≤ 58 * ks.length := by
  induction ks with
  | nil => simp [keysE]
  | cons k r ih =>
    have ih := ih (fun y hy => h y (List.mem_cons_of_mem _ hy))
    have h1 := textB_len k (h k (by simp))
    have h2 := (numB_length ((lookM .str (.int .u64) m k).getD (0 : Int))).2
    simp only [keysE, List.flatMap_cons, List.length_append, List.length_cons] at ih ⊢
    omega
theorem outsE_len (l : List OutT.den) (h : ∀ x ∈ l, x.1.size ≤ 40 ∧ x.2.1.size ≤ 40 ∧ x.2.2.2.2.length ≤ 4) : (outsE l).length ≤ 300 * l.length := by
  induction l with
  | nil => simp [outsE]
  | cons x r ih =>
    have ih := ih (fun y hy => h y (List.mem_cons_of_mem _ hy))
    have h0 := h x (by simp)
    have h1 := textB_len x.1 h0.1
    have h2 := textB_length ⟨(letB x.2).toArray⟩
    have h3 := letB_length x.2
    have h4 : (⟨(letB x.2).toArray⟩ : ByteArray).size = (letB x.2).length := by show (letB x.2).toArray.size = _; simp
    simp only [outsE, List.flatMap_cons, List.length_append, List.length_cons] at ih ⊢
    omega

/-- Ranges of what the letters carry. -/
def rng (l : List OutT.den) : Prop := ∀ x ∈ l, in64 x.2.2.2.1 ∧ inI x.2.2.2.2
/-- Encode -/
def C34 : Contract := fun args hp K => match args with
  | [.ptr 0 0] => onOb hp fun o l m => OutOk o l m ∧ (rng l → K (.own 3) (obH false o l m ++ [.row true 1 .byte (outE o l m)]))
  | _ => False
def L34 (o : ByteArray) (l : List OutT.den) (m : List (ByteArray × Int)) : LoopAnn := cntA (fun i => ⟨[(0, .ptr 0 0), (3, .ptr 3 0), (32, .own 5), (33, .int .i64 m.length), (34, .int .i64 i)],
  obH false o l m ++ [.struct [.own 4], .row true 1 .byte (textB o ++ numB m.length ++ keysE m ((srtK (vt := .int .u64) m).take i)), .row true 16 .str (srtK (vt := .int .u64) m)]⟩) m.length
def M34 (o : ByteArray) (l : List OutT.den) (m : List (ByteArray × Int)) : LoopAnn := { G := Nat, I := fun i => ⟨[(3, .ptr 3 0), (61, .own 1), (62, .int .i64 l.length), (63, .int .i64 i)],
  obH false o l m ++ [.struct [.own 4], .row true 1 .byte (textB o ++ numB m.length ++ keysE m (srtK (vt := .int .u64) m) ++ numB l.length ++ outsE (l.take i))]⟩, R := fun _ i => i ≤ l.length ∧ rng (l.take i), μ := fun i => l.length - i }
theorem M34_I {o l m} (i : Nat) : (M34 o l m).I i = ⟨[(3, .ptr 3 0), (61, .own 1), (62, .int .i64 l.length), (63, .int .i64 i)],
  obH false o l m ++ [.struct [.own 4], .row true 1 .byte (textB o ++ numB m.length ++ keysE m (srtK (vt := .int .u64) m) ++ numB l.length ++ outsE (l.take i))]⟩ := rfl
theorem s34 : Sound Tryz.prog 34 C34 := by
  refine sound_of_okF ok34 (Γ := [(79, C79), (58, C58), (62, C62), (59, C59), (96, C96), (95, C95), (97, C97), (63, C63)]) (.cons s79 (callable_of_okF ok79) (.cons s58 (callable_of_okF ok58) (.cons s62 (callable_of_okF ok62) (.cons s59 (callable_of_okF ok59) (.cons s96 (callable_of_okF ok96) (.cons s95 ⟨_, Tryz.func95, rfl, by decide⟩ (.cons s97 (callable_of_okF ok97) (.cons s63 (callable_of_okF ok63) .nil)))))))) ?_
  intro args hp K h
  unfold C34 at h
  split at h
  · obtain ⟨o, l, m, rfl, ok, h⟩ := h
    refine ⟨by simp, [(1, L34 o l m), (2, M34 o l m)], ?_⟩
    unfold obH at h ⊢
    simp (maxSteps := 2000000) only [a34, r34, C79, C58, C62, C59, C96, C95, wrH, go_sem, eq_self, and_self, Int.natCast_pos, Int.le_refl, Nat.le_refl, Int.natCast_nonneg, Int.ofNat_lt, Int.ofNat_le, Int.reduceLT, Int.reduceLE, Int.reduceEq, Int.reduceNe, Int.reduceAdd, Int.reduceSub, Int.reduceMul, Int.reduceToNat, Int.reduceNeg, Nat.reduceEqDiff, Nat.reduceLeDiff, Nat.reduceSub, Nat.reduceMul, Nat.reduceLT, Nat.reduceBEq, Nat.reduceAdd]
    have hsl := srtK_length (vt := .int .u64) m
    have b1 := textB_len o ok.o40
    have b2 := (numB_length (m.length : Int)).2
    have b3 := (numB_length (l.length : Int)).2
    have hk : ∀ k ∈ srtK (vt := .int .u64) m, k.size ≤ 40 := fun k hk => by
      obtain ⟨y, hy, rfl⟩ := srtK_mem hk
      exact ok.k40 y hy
    have b4 : ∀ i, (keysE m ((srtK (vt := .int .u64) m).take i)).length ≤ 58 * 64 := fun i => by
      have h1 := keysE_len m ((srtK (vt := .int .u64) m).take i) (fun k h => hk k (List.mem_of_mem_take h))
      have h2 : ((srtK (vt := .int .u64) m).take i).length ≤ 64 := by have := ok.m64; rw [List.length_take]; omega
      omega
    have b5 : ∀ i, (outsE (l.take i)).length ≤ 300 * 32 := fun i => by
      have h1 := outsE_len (l.take i) (fun k h => ok.x40 k (List.mem_of_mem_take h))
      have h2 : (l.take i).length ≤ 32 := by have := ok.l32; rw [List.length_take]; omega
      omega
    refine sw_intro (fun h => absurd (by simpa using h) ok.o0) (fun _ => ⟨by have := ok.o40; omega, ?_⟩)
    rintro _ n rfl _ n1 hn1
    have hm := ok.m64
    rw [wu64 (by omega)] at hn1
    subst hn1
    refine ⟨by omega, by omega, ?_⟩
    rintro _ _ n2 rfl
    rw [hsl]
    refine loop_intro (A := L34 o l m) (0 : Nat) ?_ (Nat.zero_le _) ?_
    · simp (maxSteps := 2000000) only [L34, cntA_I, obH, go_sem, eq_self, and_self, Int.natCast_pos, Int.le_refl, Nat.le_refl, Int.natCast_nonneg, Int.ofNat_lt, Int.ofNat_le, Int.reduceLT, Int.reduceLE, Int.reduceEq, Int.reduceNe, Int.reduceAdd, Int.reduceSub, Int.reduceMul, Int.reduceToNat, Int.reduceNeg, Nat.reduceEqDiff, Nat.reduceLeDiff, Nat.reduceSub, Nat.reduceMul, Nat.reduceLT, Nat.reduceBEq, Nat.reduceAdd]
      simp [keysE]
    · intro (i : Nat) (hi : i ≤ m.length)
      simp (maxSteps := 2000000) only [L34, cntA_I, obH, C62, C59, C97, C63, wrH, go_sem, eq_self, and_self, Int.natCast_pos, Int.le_refl, Nat.le_refl, Int.natCast_nonneg, Int.ofNat_lt, Int.ofNat_le, Int.reduceLT, Int.reduceLE, Int.reduceEq, Int.reduceNe, Int.reduceAdd, Int.reduceSub, Int.reduceMul, Int.reduceToNat, Int.reduceNeg, Nat.reduceEqDiff, Nat.reduceLeDiff, Nat.reduceSub, Nat.reduceMul, Nat.reduceLT, Nat.reduceBEq, Nat.reduceAdd]
      have hb4 := b4 i
      rintro c rfl
      refine sw_intro (fun hc => ?_) (fun hc => ?_) <;> simp only [decide_eq_true_eq, decide_eq_false_iff_not] at hc
      · have hlt : i < (srtK (vt := .int .u64) m).length := by omega
        have hks : ByteArray.size (elt Ty.str (srtK (vt := .int .u64) m) i) ≤ 40 := hk _ (by
          have := elt_get (t := .str) hlt
          exact List.mem_of_getElem? this)
        have hkt := textB_len _ hks
        refine nd_intro hlt ⟨by simp only [List.length_append]; omega, ?_⟩
        rintro y b rfl _
        refine ⟨by simp only [List.length_append]; omega, ?_⟩
        rintro _ _ n2 hn2
        rw [w64 (by omega)] at hn2
        subst hn2
        refine cntA_next hc ?_
        simp (maxSteps := 2000000) only [go_sem, eq_self, and_self, Int.natCast_pos, Int.le_refl, Nat.le_refl, Int.natCast_nonneg, Int.ofNat_lt, Int.ofNat_le, Int.reduceLT, Int.reduceLE, Int.reduceEq, Int.reduceNe, Int.reduceAdd, Int.reduceSub, Int.reduceMul, Int.reduceToNat, Int.reduceNeg, Nat.reduceEqDiff, Nat.reduceLeDiff, Nat.reduceSub, Nat.reduceMul, Nat.reduceLT, Nat.reduceBEq, Nat.reduceAdd]
        rw [← take_elt (t := .str) hlt, keysE_snoc]
        simp only [List.append_assoc]
        rfl
      · obtain rfl : i = m.length := by omega
        have et : List.take m.length (srtK (vt := .int .u64) m) = srtK (vt := .int .u64) m := List.take_of_length_le (by omega)
        rw [et] at hb4 ⊢
        have hl := ok.l32
        rintro _ _ n rfl _ n1 hn1
        rw [wu64 (by omega)] at hn1
        subst hn1
        refine ⟨by simp only [List.length_append]; omega, ?_⟩
        rintro _ _ n2 rfl
        refine loop_intro (A := M34 o l m) (0 : Nat) ?_ ⟨Nat.zero_le _, fun x hx => by simp at hx⟩ ?_
        · simp (maxSteps := 2000000) only [M34_I, obH, go_sem, eq_self, and_self, Int.natCast_pos, Int.le_refl, Nat.le_refl, Int.natCast_nonneg, Int.ofNat_lt, Int.ofNat_le, Int.reduceLT, Int.reduceLE, Int.reduceEq, Int.reduceNe, Int.reduceAdd, Int.reduceSub, Int.reduceMul, Int.reduceToNat, Int.reduceNeg, Nat.reduceEqDiff, Nat.reduceLeDiff, Nat.reduceSub, Nat.reduceMul, Nat.reduceLT, Nat.reduceBEq, Nat.reduceAdd]
          simp [outsE]
        · intro (i : Nat) (hi : i ≤ l.length ∧ rng (l.take i))
          obtain ⟨hi, hin⟩ := hi
          simp (maxSteps := 2000000) only [M34_I, obH, C62, C59, C97, C63, wrH, go_sem, eq_self, and_self, Int.natCast_pos, Int.le_refl, Nat.le_refl, Int.natCast_nonneg, Int.ofNat_lt, Int.ofNat_le, Int.reduceLT, Int.reduceLE, Int.reduceEq, Int.reduceNe, Int.reduceAdd, Int.reduceSub, Int.reduceMul, Int.reduceToNat, Int.reduceNeg, Nat.reduceEqDiff, Nat.reduceLeDiff, Nat.reduceSub, Nat.reduceMul, Nat.reduceLT, Nat.reduceBEq, Nat.reduceAdd]
          have hb5 := b5 i
          rintro c rfl
          refine sw_intro (fun hc => ?_) (fun hc => ?_) <;> simp only [decide_eq_true_eq, decide_eq_false_iff_not] at hc
          · have hx := ok.x40 (elt OutT l i) (List.mem_of_getElem? (elt_get hc))
            have ht := textB_len _ hx.1
            have hb := letB_length (elt OutT l i).2
            refine nd_intro hc ⟨by simp only [List.length_append]; omega, hx.2.1, hx.2.2, ?_⟩
            rintro hx64 u rfl
            refine ⟨?_, ?_⟩
            · have hu : ∀ l : List UInt8, (⟨l.toArray⟩ : ByteArray).size = l.length := fun l => by show l.toArray.size = _; simp
              rw [hu]
              simp only [List.length_append]
              have := hb
              show _ + (letB (elt OutT l i).2).length ≤ _
              omega
            · rintro _ _ n2 hn2
              rw [w64 (by omega)] at hn2
              subst hn2
              refine lpE_intro (A := M34 o l m) (i + 1 : Nat) ?_ ⟨hc, fun x hx => ?_⟩ (by show l.length - (i + 1) < l.length - i; omega)
              rotate_left
              · rw [← take_elt (t := OutT) hc] at hx
                rcases List.mem_append.1 hx with hx | hx
                · exact hin x hx
                · simp only [List.mem_singleton] at hx
                  subst hx
                  exact hx64
              simp (maxSteps := 2000000) only [M34_I, obH, go_sem, eq_self, and_self, Int.natCast_pos, Int.le_refl, Nat.le_refl, Int.natCast_nonneg, Int.ofNat_lt, Int.ofNat_le, Int.reduceLT, Int.reduceLE, Int.reduceEq, Int.reduceNe, Int.reduceAdd, Int.reduceSub, Int.reduceMul, Int.reduceToNat, Int.reduceNeg, Nat.reduceEqDiff, Nat.reduceLeDiff, Nat.reduceSub, Nat.reduceMul, Nat.reduceLT, Nat.reduceBEq, Nat.reduceAdd]
              rw [← take_elt (t := OutT) hc, outsE_snoc]
              simp only [List.append_assoc]
              rfl
          · obtain rfl : i = l.length := by omega
            rw [List.take_length] at hin ⊢
            exact h hin
  · exact h.elim
end Go.V
