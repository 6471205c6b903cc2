/- A part of the proof layer, or functions of the given program in it: contracts and their proofs. -/
import Derived.Test.YtbcmjkfdeikkhaaGreatA42
namespace Go.V
open Go.Proofs
set_option maxRecDepth 100000
set_option maxHeartbeats 4000000
set_option linter.unusedSimpArgs false
set_option linter.unnecessarySimpa false
set_option linter.unusedVariables false
/-! ### the actor, and the document's -/
structure ActS where
  o : ByteArray
  l : List OutT.den
  m : List (ByteArray × Int)
  b : List Int
  ev : List EvT.den
  v : Int
  inb : List LetT.den
  tries : Int
  poi : List LetT.den
def acH (mv : Bool) (S : ActS) : List SB := [.struct [.ptr 1 0, .ptr 3 0, .ptr 5 0, .int .i64 S.tries, .sl true 56 LetT S.poi], .struct [.arr 8 (.int .i64) S.b, .own 2, .int .u64 S.v], .row mv 16 EvT S.ev, .struct [.own 4], .row mv 56 LetT S.inb,
  .struct [.str S.o, .own 6, .mp 7], .row mv 72 OutT S.l, .map false .str (.int .u64) S.m]
def onA (hp : List SB) (k : ActS → Prop) : Prop := ∃ S, hp = acH false S ∧ k S
@[go_sem] theorem onA_eq {o l m b ev v inb tries poi k} : onA [.struct [.ptr 1 0, .ptr 3 0, .ptr 5 0, .int .i64 tries, .sl true 56 (.pair .str (.pair (.int .u64) (.pair (.int .i64) (.sl 8 (.int .i64))))) (no_index poi)], .struct [.arr 8 (.int .i64) (no_index b), .own 2, .int .u64 v], .row false 16 (.pair (.int .i64) (.int .i64)) (no_index ev), .struct [.own 4], .row false 56 (.pair .str (.pair (.int .u64) (.pair (.int .i64) (.sl 8 (.int .i64))))) (no_index inb),
    .struct [.str o, .own 6, .mp 7], .row false 72 (.pair .str (.pair .str (.pair (.int .u64) (.pair (.int .i64) (.sl 8 (.int .i64)))))) (no_index l), .map false .str (.int .u64) (no_index m)] k = k ⟨o, l, m, b, ev, v, inb, tries, poi⟩ := by
  apply propext; constructor
  · rintro ⟨S, h, hk⟩
    unfold acH at h
    cases h
    exact hk
  · exact fun h => ⟨_, rfl, h⟩
def wcH (mv : Bool) (S : ActS) : List SB := [.struct [.ptr 1 0, .ptr 3 0, .ptr 5 0, .int .i64 S.tries, .sl true 56 LetT S.poi], .struct [.arr 8 (.int .i64) S.b, .own 2, .int .u64 S.v], .row mv 16 EvT S.ev, .struct [.own 4], .row mv 56 LetT S.inb,
  .struct [.str S.o, .own 6, .own 7], .row mv 72 OutT S.l, .row mv 24 LastT S.m]
def newS (s : ByteArray) : ActS := ⟨s, [], [], List.replicate 8 0, [], 0, [], 0, []⟩

def C18 : Contract := fun args hp K => match args, hp with
  | [.str s], [] => (keyOk s = true → K (.tup [.ptr 0 0, .int .i64 0]) (acH true (newS s))) ∧ (keyOk s = false → K (.tup [.nilp, .int .i64 1]) [])
  | _, _ => False
theorem s18 : Sound Tryz.prog 18 C18 := by
  refine sound_of_okF ok18 (Γ := [(71, C71), (72, C72), (73, C73)]) (.cons s71 (callable_of_okF ok71) (.cons s72 (callable_of_okF ok72) (.cons s73 (callable_of_okF ok73) .nil))) ?_
  intro args hp K h
  unfold C18 at h
  split at h
  · rename_i s
    refine ⟨by simp, [], ?_⟩
    unfold acH newS at h
    simp (maxSteps := 2000000) only [a18, r18, C71, C72, C73, obH, jH, inH, go_sem, eq_self, and_self, Int.natCast_pos, Int.le_refl, Nat.le_refl, Int.natCast_nonneg, Int.ofNat_lt, Int.ofNat_le, Int.reduceLT, Int.reduceLE, Int.reduceEq, Int.reduceNe, Int.reduceAdd, Int.reduceSub, Int.reduceMul, Int.reduceToNat, Int.reduceNeg, Nat.reduceEqDiff, Nat.reduceLeDiff, Nat.reduceSub, Nat.reduceMul, Nat.reduceLT, Nat.reduceBEq, Nat.reduceAdd]
    exact h
  · exact h.elim
def C22 : Contract := fun args hp K => match args, hp with
  | [.str s], [] => (keyOk s = true → K (.tup [.ptr 0 0, .int .i64 0]) (wcH true (newS s))) ∧ (keyOk s = false → K (.tup [.nilp, .int .i64 1]) [])
  | _, _ => False
theorem s22 : Sound Tryz.prog 22 C22 := by
  refine sound_of_okF ok22 (Γ := [(76, C76)]) (.cons s76 (callable_of_okF ok76) .nil) ?_
  intro args hp K h
  unfold C22 at h
  split at h
  · rename_i s
    refine ⟨by simp, [], ?_⟩
    unfold wcH newS at h
    simp (maxSteps := 2000000) only [a22, r22, C76, rfH, go_sem, eq_self, and_self, Int.natCast_pos, Int.le_refl, Nat.le_refl, Int.natCast_nonneg, Int.ofNat_lt, Int.ofNat_le, Int.reduceLT, Int.reduceLE, Int.reduceEq, Int.reduceNe, Int.reduceAdd, Int.reduceSub, Int.reduceMul, Int.reduceToNat, Int.reduceNeg, Nat.reduceEqDiff, Nat.reduceLeDiff, Nat.reduceSub, Nat.reduceMul, Nat.reduceLT, Nat.reduceBEq, Nat.reduceAdd]
    exact h
  · exact h.elim
/-- Actors that lack a part. -/
def lackH (k : Nat) (S : ActS) : List SB :=
  match k with
  | 0 => [.struct [.nilp, .ptr 1 0, .ptr 3 0, .int .i64 S.tries, .sl true 56 LetT S.poi], .struct [.own 2], .row false 56 LetT S.inb, .struct [.str S.o, .own 4, .mp 5], .row false 72 OutT S.l, .map false .str (.int .u64) S.m]
  | 1 => [.struct [.ptr 1 0, .nilp, .ptr 3 0, .int .i64 S.tries, .sl true 56 LetT S.poi], .struct [.arr 8 (.int .i64) S.b, .own 2, .int .u64 S.v], .row false 16 EvT S.ev, .struct [.str S.o, .own 4, .mp 5], .row false 72 OutT S.l, .map false .str (.int .u64) S.m]
  | 2 => [.struct [.ptr 1 0, .ptr 3 0, .nilp, .int .i64 S.tries, .sl true 56 LetT S.poi], .struct [.arr 8 (.int .i64) S.b, .own 2, .int .u64 S.v], .row false 16 EvT S.ev, .struct [.own 4], .row false 56 LetT S.inb]
  | _ => [.struct [.nilp, .nilp, .nilp, .int .i64 0, .nils]]
def onLack (hp : List SB) (k : Prop) : Prop := (∃ n S, hp = lackH n S) ∧ k
def C44 : Contract := fun args hp K => match args with
  | [.ptr 0 0] => (onA hp fun S => K (.str S.o) hp) ∨ (∃ S, hp = lackH 2 S ∧ K (.str ByteArray.empty) hp)
  | _ => False
theorem s44 : Sound Tryz.prog 44 C44 := by
  refine sound_of_okF ok44 (Γ := [(102, C102)]) (.cons s102 (callable_of_okF ok102) .nil) ?_
  intro args hp K h
  unfold C44 at h
  split at h
  · rcases h with ⟨S, rfl, h⟩ | ⟨S, rfl, h⟩
    · refine ⟨by simp, [], ?_⟩
      unfold acH at h ⊢
      simp (maxSteps := 2000000) only [a44, r44, C102, go_sem, eq_self, and_self, Int.natCast_pos, Int.le_refl, Nat.le_refl, Int.natCast_nonneg, Int.ofNat_lt, Int.ofNat_le, Int.reduceLT, Int.reduceLE, Int.reduceEq, Int.reduceNe, Int.reduceAdd, Int.reduceSub, Int.reduceMul, Int.reduceToNat, Int.reduceNeg, Nat.reduceEqDiff, Nat.reduceLeDiff, Nat.reduceSub, Nat.reduceMul, Nat.reduceLT, Nat.reduceBEq, Nat.reduceAdd]
      exact h
    · refine ⟨by simp, [], ?_⟩
      unfold lackH at h ⊢
      simp (maxSteps := 2000000) only [a44, r44, C102, go_sem, eq_self, and_self, Int.natCast_pos, Int.le_refl, Nat.le_refl, Int.natCast_nonneg, Int.ofNat_lt, Int.ofNat_le, Int.reduceLT, Int.reduceLE, Int.reduceEq, Int.reduceNe, Int.reduceAdd, Int.reduceSub, Int.reduceMul, Int.reduceToNat, Int.reduceNeg, Nat.reduceEqDiff, Nat.reduceLeDiff, Nat.reduceSub, Nat.reduceMul, Nat.reduceLT, Nat.reduceBEq, Nat.reduceAdd]
      exact h
  · exact h.elim
/-- May it be? -/
def sndS (t : Int) (n : Nat) (poi : List LetT.den) : Bool := decide (0 ≤ t) && (decide (t < 3) && (!(decide (0 < t) && decide (n = 0)) && (decide (poi.length ≤ 8) && poi.all fmL)))
theorem all_false {α : Type} {f : α → Bool} {l : List α} {x : α} (h : x ∈ l) (hx : f x = false) : l.all f = false := by
  cases ht : l.all f with
  | false => rfl
  | true => rw [List.all_eq_true.1 ht x h] at hx; cases hx
/-- sound -/
def C56 : Contract := fun args hp K => match args with
  | [.nilp] => hp = [] ∧ K (.bool false) []
  | [.ptr 0 0] => (onA hp fun S => S.inb.length ≤ 1000 ∧ S.o ≠ ByteArray.empty ∧ K (.bool (sndS S.tries S.inb.length S.poi)) hp) ∨ onLack hp (K (.bool false) hp)
  | _ => False
def L56 (S : ActS) : LoopAnn := { G := Nat, I := fun i => ⟨[(66, .sl true 56 LetT S.poi), (67, .int .i64 S.poi.length), (68, .int .i64 i)], acH false S⟩, R := fun _ i => i ≤ S.poi.length ∧ (S.poi.take i).all fmL = true, μ := fun i => S.poi.length - i }
theorem L56_I {S} (i : Nat) : (L56 S).I i = ⟨[(66, .sl true 56 LetT S.poi), (67, .int .i64 S.poi.length), (68, .int .i64 i)], acH false S⟩ := rfl
theorem s56 : Sound Tryz.prog 56 C56 := by
  refine sound_of_okF ok56 (Γ := [(44, C44), (11, C11), (74, C74)]) (.cons s44 (callable_of_okF ok44) (.cons s11 (callable_of_okF ok11) (.cons s74 (callable_of_okF ok74) .nil))) ?_
  intro args hp K h
  unfold C56 at h
  split at h
  · obtain ⟨rfl, h⟩ := h
    refine ⟨by simp, [], ?_⟩
    simp (maxSteps := 2000000) only [a56, r56, go_sem, eq_self, and_self, Int.natCast_pos, Int.le_refl, Nat.le_refl, Int.natCast_nonneg, Int.ofNat_lt, Int.ofNat_le, Int.reduceLT, Int.reduceLE, Int.reduceEq, Int.reduceNe, Int.reduceAdd, Int.reduceSub, Int.reduceMul, Int.reduceToNat, Int.reduceNeg, Nat.reduceEqDiff, Nat.reduceLeDiff, Nat.reduceSub, Nat.reduceMul, Nat.reduceLT, Nat.reduceBEq, Nat.reduceAdd]
    exact h
  · rcases h with ⟨S, rfl, hi, ho, h⟩ | ⟨⟨k, S, rfl⟩, h⟩
    · refine ⟨by simp, [(1, L56 S)], ?_⟩
      unfold acH at h ⊢
      simp (maxSteps := 2000000) only [a56, r56, C44, C11, go_sem, eq_self, and_self, Int.natCast_pos, Int.le_refl, Nat.le_refl, Int.natCast_nonneg, Int.ofNat_lt, Int.ofNat_le, Int.reduceLT, Int.reduceLE, Int.reduceEq, Int.reduceNe, Int.reduceAdd, Int.reduceSub, Int.reduceMul, Int.reduceToNat, Int.reduceNeg, Nat.reduceEqDiff, Nat.reduceLeDiff, Nat.reduceSub, Nat.reduceMul, Nat.reduceLT, Nat.reduceBEq, Nat.reduceAdd]
      obtain ⟨o, l, m, b, ev, v, inb, tries, poi⟩ := S
      simp only at hi ho h ⊢
      have hmx := maxLen_val
      have fail : sndS tries inb.length poi = false → K (.bool false) _ := fun hf => by rw [hf] at h; exact h
      refine .inl ?_
      rintro c rfl
      refine sw_intro (fun h0 => absurd (by simpa using h0) ho) (fun _ => ?_)
      rintro c rfl
      refine sw_intro (fun h1 => fail ?_) (fun h1 => ?_) <;> simp only [decide_eq_true_eq, decide_eq_false_iff_not] at h1
      · unfold sndS; rw [decide_eq_false (p := 0 ≤ tries) (by omega)]; rfl
      rintro c rfl
      refine sw_intro (fun h2 => fail ?_) (fun h2 => ?_) <;> simp only [decide_eq_true_eq, decide_eq_false_iff_not] at h2
      · unfold sndS; rw [decide_eq_false (p := tries < 3) (by omega)]; simp
      have good : (0 < tries → inb.length ≠ 0) → poi.length ≤ 8 → sndS tries inb.length poi = poi.all fmL := fun h3 h4 => by
        unfold sndS
        rw [decide_eq_true (p := 0 ≤ tries) (by omega), decide_eq_true (p := tries < 3) (by omega), decide_eq_true h4]
        by_cases h5 : 0 < tries
        · have := h3 h5
          rw [decide_eq_true h5, decide_eq_false (p := inb.length = 0) this]; simp
        · rw [decide_eq_false h5]; simp
      have bad : 8 < poi.length → sndS tries inb.length poi = false := fun h4 => by
        unfold sndS
        rw [decide_eq_false (p := poi.length ≤ 8) (by omega)]; simp
      rintro c rfl
      refine sw_intro (fun h3 => ?_) (fun h3 => ?_) <;> simp only [decide_eq_true_eq, decide_eq_false_iff_not] at h3
      · refine ⟨hi, ?_⟩
        rintro c rfl
        refine sw_intro (fun h5 => fail ?_) (fun h5 => ?_) <;> simp only [decide_eq_true_eq, decide_eq_false_iff_not] at h5
        · unfold sndS; rw [decide_eq_true h3, decide_eq_true (p := inb.length = 0) (by omega)]; simp
        replace good := good (fun _ => by omega)
        clear h3 h5
        rintro _ _ m rfl c rfl
        refine sw_intro (fun h4 => fail (bad (by simp only [decide_eq_true_eq] at h4; omega))) (fun h4 => ?_)
        simp only [decide_eq_false_iff_not] at h4
        rw [good (by omega)] at h fail
        rintro _ _ m rfl
        refine loop_intro (A := L56 ⟨o, l, m, b, ev, v, inb, tries, poi⟩) (0 : Nat) ?_ ⟨Nat.zero_le _, by simp⟩ ?_
        · simp (maxSteps := 2000000) only [L56_I, acH, go_sem, eq_self, and_self, Int.natCast_pos, Int.le_refl, Nat.le_refl, Int.natCast_nonneg, Int.ofNat_lt, Int.ofNat_le, Int.reduceLT, Int.reduceLE, Int.reduceEq, Int.reduceNe, Int.reduceAdd, Int.reduceSub, Int.reduceMul, Int.reduceToNat, Int.reduceNeg, Nat.reduceEqDiff, Nat.reduceLeDiff, Nat.reduceSub, Nat.reduceMul, Nat.reduceLT, Nat.reduceBEq, Nat.reduceAdd]
          rfl
        · intro (i : Nat) (hi : i ≤ poi.length ∧ (poi.take i).all fmL = true)
          obtain ⟨hi, ha⟩ := hi
          simp (maxSteps := 2000000) only [L56_I, acH, C74, go_sem, eq_self, and_self, Int.natCast_pos, Int.le_refl, Nat.le_refl, Int.natCast_nonneg, Int.ofNat_lt, Int.ofNat_le, Int.reduceLT, Int.reduceLE, Int.reduceEq, Int.reduceNe, Int.reduceAdd, Int.reduceSub, Int.reduceMul, Int.reduceToNat, Int.reduceNeg, Nat.reduceEqDiff, Nat.reduceLeDiff, Nat.reduceSub, Nat.reduceMul, Nat.reduceLT, Nat.reduceBEq, Nat.reduceAdd]
          rintro c rfl
          refine sw_intro (fun hc => ?_) (fun hc => ?_) <;> simp only [decide_eq_true_eq, decide_eq_false_iff_not] at hc
          · refine nd_intro hc (sw_intro (fun hf => ?_) (fun hf => fail (all_false (elt_mem (t := LetT) hc) hf)))
            rintro _ _ m hm
            rw [w64 (by omega)] at hm
            subst hm
            refine lpE_intro (A := L56 ⟨o, l, m, b, ev, v, inb, tries, poi⟩) (i + 1 : Nat) ?_ ⟨hc, ?_⟩ (by show poi.length - (i + 1) < poi.length - i; omega)
            · simp (maxSteps := 2000000) only [L56_I, acH, go_sem, eq_self, and_self, Int.natCast_pos, Int.le_refl, Nat.le_refl, Int.natCast_nonneg, Int.ofNat_lt, Int.ofNat_le, Int.reduceLT, Int.reduceLE, Int.reduceEq, Int.reduceNe, Int.reduceAdd, Int.reduceSub, Int.reduceMul, Int.reduceToNat, Int.reduceNeg, Nat.reduceEqDiff, Nat.reduceLeDiff, Nat.reduceSub, Nat.reduceMul, Nat.reduceLT, Nat.reduceBEq, Nat.reduceAdd]
              rfl
            · rw [← take_elt (t := LetT) hc, List.all_append, ha]
              simpa [fmL] using hf
          · obtain rfl : i = poi.length := by omega
            rw [List.take_length] at ha
            rw [ha] at h
            exact h
      · replace good := good (fun h9 => absurd h9 h3)
        clear h3
        rintro _ _ m rfl c rfl
        refine sw_intro (fun h4 => fail (bad (by simp only [decide_eq_true_eq] at h4; omega))) (fun h4 => ?_)
        simp only [decide_eq_false_iff_not] at h4
        rw [good (by omega)] at h fail
        rintro _ _ m rfl
        refine loop_intro (A := L56 ⟨o, l, m, b, ev, v, inb, tries, poi⟩) (0 : Nat) ?_ ⟨Nat.zero_le _, by simp⟩ ?_
        · simp (maxSteps := 2000000) only [L56_I, acH, go_sem, eq_self, and_self, Int.natCast_pos, Int.le_refl, Nat.le_refl, Int.natCast_nonneg, Int.ofNat_lt, Int.ofNat_le, Int.reduceLT, Int.reduceLE, Int.reduceEq, Int.reduceNe, Int.reduceAdd, Int.reduceSub, Int.reduceMul, Int.reduceToNat, Int.reduceNeg, Nat.reduceEqDiff, Nat.reduceLeDiff, Nat.reduceSub, Nat.reduceMul, Nat.reduceLT, Nat.reduceBEq, Nat.reduceAdd]
          rfl
        · intro (i : Nat) (hi : i ≤ poi.length ∧ (poi.take i).all fmL = true)
          obtain ⟨hi, ha⟩ := hi
          simp (maxSteps := 2000000) only [L56_I, acH, C74, go_sem, eq_self, and_self, Int.natCast_pos, Int.le_refl, Nat.le_refl, Int.natCast_nonneg, Int.ofNat_lt, Int.ofNat_le, Int.reduceLT, Int.reduceLE, Int.reduceEq, Int.reduceNe, Int.reduceAdd, Int.reduceSub, Int.reduceMul, Int.reduceToNat, Int.reduceNeg, Nat.reduceEqDiff, Nat.reduceLeDiff, Nat.reduceSub, Nat.reduceMul, Nat.reduceLT, Nat.reduceBEq, Nat.reduceAdd]
          rintro c rfl
          refine sw_intro (fun hc => ?_) (fun hc => ?_) <;> simp only [decide_eq_true_eq, decide_eq_false_iff_not] at hc
          · refine nd_intro hc (sw_intro (fun hf => ?_) (fun hf => fail (all_false (elt_mem (t := LetT) hc) hf)))
            rintro _ _ m hm
            rw [w64 (by omega)] at hm
            subst hm
            refine lpE_intro (A := L56 ⟨o, l, m, b, ev, v, inb, tries, poi⟩) (i + 1 : Nat) ?_ ⟨hc, ?_⟩ (by show poi.length - (i + 1) < poi.length - i; omega)
            · simp (maxSteps := 2000000) only [L56_I, acH, go_sem, eq_self, and_self, Int.natCast_pos, Int.le_refl, Nat.le_refl, Int.natCast_nonneg, Int.ofNat_lt, Int.ofNat_le, Int.reduceLT, Int.reduceLE, Int.reduceEq, Int.reduceNe, Int.reduceAdd, Int.reduceSub, Int.reduceMul, Int.reduceToNat, Int.reduceNeg, Nat.reduceEqDiff, Nat.reduceLeDiff, Nat.reduceSub, Nat.reduceMul, Nat.reduceLT, Nat.reduceBEq, Nat.reduceAdd]
              rfl
            · rw [← take_elt (t := LetT) hc, List.all_append, ha]
              simpa [fmL] using hf
          · obtain rfl : i = poi.length := by omega
            rw [List.take_length] at ha
            rw [ha] at h
            exact h
    · unfold lackH at h ⊢
      split at h
      · refine ⟨by simp, [], ?_⟩
        simp (maxSteps := 2000000) only [a56, r56, go_sem, eq_self, and_self, Int.natCast_pos, Int.le_refl, Nat.le_refl, Int.natCast_nonneg, Int.ofNat_lt, Int.ofNat_le, Int.reduceLT, Int.reduceLE, Int.reduceEq, Int.reduceNe, Int.reduceAdd, Int.reduceSub, Int.reduceMul, Int.reduceToNat, Int.reduceNeg, Nat.reduceEqDiff, Nat.reduceLeDiff, Nat.reduceSub, Nat.reduceMul, Nat.reduceLT, Nat.reduceBEq, Nat.reduceAdd]
        exact h
      · refine ⟨by simp, [], ?_⟩
        simp (maxSteps := 2000000) only [a56, r56, go_sem, eq_self, and_self, Int.natCast_pos, Int.le_refl, Nat.le_refl, Int.natCast_nonneg, Int.ofNat_lt, Int.ofNat_le, Int.reduceLT, Int.reduceLE, Int.reduceEq, Int.reduceNe, Int.reduceAdd, Int.reduceSub, Int.reduceMul, Int.reduceToNat, Int.reduceNeg, Nat.reduceEqDiff, Nat.reduceLeDiff, Nat.reduceSub, Nat.reduceMul, Nat.reduceLT, Nat.reduceBEq, Nat.reduceAdd]
        exact h
      · refine ⟨by simp, [], ?_⟩
        simp (maxSteps := 2000000) only [a56, r56, C44, go_sem, eq_self, and_self, Int.natCast_pos, Int.le_refl, Nat.le_refl, Int.natCast_nonneg, Int.ofNat_lt, Int.ofNat_le, Int.reduceLT, Int.reduceLE, Int.reduceEq, Int.reduceNe, Int.reduceAdd, Int.reduceSub, Int.reduceMul, Int.reduceToNat, Int.reduceNeg, Nat.reduceEqDiff, Nat.reduceLeDiff, Nat.reduceSub, Nat.reduceMul, Nat.reduceLT, Nat.reduceBEq, Nat.reduceAdd]
        exact .inr ⟨S, rfl, h⟩
      · refine ⟨by simp, [], ?_⟩
        simp (maxSteps := 2000000) only [a56, r56, go_sem, eq_self, and_self, Int.natCast_pos, Int.le_refl, Nat.le_refl, Int.natCast_nonneg, Int.ofNat_lt, Int.ofNat_le, Int.reduceLT, Int.reduceLE, Int.reduceEq, Int.reduceNe, Int.reduceAdd, Int.reduceSub, Int.reduceMul, Int.reduceToNat, Int.reduceNeg, Nat.reduceEqDiff, Nat.reduceLeDiff, Nat.reduceSub, Nat.reduceMul, Nat.reduceLT, Nat.reduceBEq, Nat.reduceAdd]
        exact h
  · exact h.elim
end Go.V
