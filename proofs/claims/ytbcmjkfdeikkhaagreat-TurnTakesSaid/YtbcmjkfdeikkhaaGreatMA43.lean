/- A part of the proof layer, or functions of the given program in it: contracts and their proofs. -/
import Derived.Test.YtbcmjkfdeikkhaaGreatMA40
namespace Go.V
open Go.Proofs
set_option maxRecDepth 100000
set_option maxHeartbeats 4000000
set_option linter.unusedSimpArgs false
set_option linter.unnecessarySimpa false
set_option linter.unusedVariables false
/-! ### the actor, and the document's -/
structure ActS where
 o : ByteArray
 l : List OutT.den
 m : List (ByteArray × Int)
 b : List Int
 ev : List EvT.den
 v : Int
 inb : List LetT.den
 tries : Int
 poi : List LetT.den
def acH (mv : Bool) (S : ActS) : List SB := [.struct [.ptr 1 0, .ptr 3 0, .ptr 5 0, .int .i64 S.tries, .sl true 56 LetT S.poi], .struct [.arr 8 (.int .i64) S.b, .own 2, .int .u64 S.v], .row mv 16 EvT S.ev, .struct [.own 4], .row mv 56 LetT S.inb,
 .struct [.str S.o, .own 6, .mp 7], .row mv 72 OutT S.l, .map false .str (.int .u64) S.m]
def onA (hp : List SB) (k : ActS → Prop) : Prop := ∃ S, hp = acH false S ∧ k S
@[go_sem] theorem onA_eq {o l m b ev v inb tries poi k} : onA [.struct [.ptr 1 0, .ptr 3 0, .ptr 5 0, .int .i64 tries, .sl true 56 (.pair .str (.pair (.int .u64) (.pair (.int .i64) (.sl 8 (.int .i64))))) (no_index poi)], .struct [.arr 8 (.int .i64) (no_index b), .own 2, .int .u64 v], .row false 16 (.pair (.int .i64) (.int .i64)) (no_index ev), .struct [.own 4], .row false 56 (.pair .str (.pair (.int .u64) (.pair (.int .i64) (.sl 8 (.int .i64))))) (no_index inb),
  .struct [.str o, .own 6, .mp 7], .row false 72 (.pair .str (.pair .str (.pair (.int .u64) (.pair (.int .i64) (.sl 8 (.int .i64)))))) (no_index l), .map false .str (.int .u64) (no_index m)] k = k ⟨o, l, m, b, ev, v, inb, tries, poi⟩ := by
 apply propext; constructor
 ·rintro ⟨S, h, hk⟩
  unfold acH at h
  cases h
  exact hk
 ·exact fun h => ⟨_, rfl, h⟩
def wcH (mv : Bool) (S : ActS) : List SB := [.struct [.ptr 1 0, .ptr 3 0, .ptr 5 0, .int .i64 S.tries, .sl true 56 LetT S.poi], .struct [.arr 8 (.int .i64) S.b, .own 2, .int .u64 S.v], .row mv 16 EvT S.ev, .struct [.own 4], .row mv 56 LetT S.inb,
 .struct [.str S.o, .own 6, .own 7], .row mv 72 OutT S.l, .row mv 24 LastT S.m]
def onW (hp : List SB) (k : ActS → Prop) : Prop := ∃ S, hp = wcH false S ∧ k S
@[go_sem] theorem onW_eq {o l m b ev v inb tries poi k} : onW [.struct [.ptr 1 0, .ptr 3 0, .ptr 5 0, .int .i64 tries, .sl true 56 (.pair .str (.pair (.int .u64) (.pair (.int .i64) (.sl 8 (.int .i64))))) (no_index poi)], .struct [.arr 8 (.int .i64) (no_index b), .own 2, .int .u64 v], .row false 16 (.pair (.int .i64) (.int .i64)) (no_index ev), .struct [.own 4], .row false 56 (.pair .str (.pair (.int .u64) (.pair (.int .i64) (.sl 8 (.int .i64))))) (no_index inb),
  .struct [.str o, .own 6, .own 7], .row false 72 (.pair .str (.pair .str (.pair (.int .u64) (.pair (.int .i64) (.sl 8 (.int .i64)))))) (no_index l), .row false 24 (.pair .str (.int .u64)) (no_index m)] k = k ⟨o, l, m, b, ev, v, inb, tries, poi⟩ := by
 apply propext; constructor
 ·rintro ⟨S, h, hk⟩
  unfold wcH at h
  cases h
  exact hk
 ·exact fun h => ⟨_, rfl, h⟩
def newS (s : ByteArray) : ActS := ⟨s, [], [], List.replicate 8 0, [], 0, [], 0, []⟩
def C18 : Contract := fun args hp K => match args, hp with
 | [.str s], [] => (keyOk s = true → K (.tup [.ptr 0 0, .int .i64 0]) (acH true (newS s))) ∧ (keyOk s = false → K (.tup [.nilp, .int .i64 1]) [])
 | _, _ => False
theorem s18 : Sound Tryz.prog 18 C18 := by
 refine sound_of_okF ok18 (.cons s71 (callable_of_okF ok71) (.cons s72 (callable_of_okF ok72) (.cons s73 (callable_of_okF ok73) .nil))) ?_
 intro args hp K h
 unfold C18 at h
 split at h
 ·rename_i s
  refine ⟨by simp, [], ?_⟩
  unfold acH newS at h
  simp (maxSteps:=9^9) only [a18, r18, C71, C72, C73, obH, jH, inH, go_sem, Int.reduceEq, Nat.reduceLeDiff, Nat.reduceSub, Nat.reduceLT, Nat.reduceBEq, Nat.reduceAdd]
  exact h
 ·exact h.elim
def C22 : Contract := fun args hp K => match args, hp with
 | [.str s], [] => (keyOk s = true → K (.tup [.ptr 0 0, .int .i64 0]) (wcH true (newS s))) ∧ (keyOk s = false → K (.tup [.nilp, .int .i64 1]) [])
 | _, _ => False
theorem s22 : Sound Tryz.prog 22 C22 := by
 refine sound_of_okF ok22 (.cons s76 (callable_of_okF ok76) .nil) ?_
 intro args hp K h
 unfold C22 at h
 split at h
 ·rename_i s
  refine ⟨by simp, [], ?_⟩
  unfold wcH newS at h
  simp (maxSteps:=9^9) only [a22, r22, C76, rfH, go_sem, Int.reduceEq, Nat.reduceLeDiff, Nat.reduceSub, Nat.reduceMul, Nat.reduceLT, Nat.reduceBEq, Nat.reduceAdd]
  exact h
 ·exact h.elim
def lackH (k : Nat) (S : ActS) : List SB :=
 match k with
 | 0 => [.struct [.nilp, .ptr 1 0, .ptr 3 0, .int .i64 S.tries, .sl true 56 LetT S.poi], .struct [.own 2], .row false 56 LetT S.inb, .struct [.str S.o, .own 4, .mp 5], .row false 72 OutT S.l, .map false .str (.int .u64) S.m]
 | 1 => [.struct [.ptr 1 0, .nilp, .ptr 3 0, .int .i64 S.tries, .sl true 56 LetT S.poi], .struct [.arr 8 (.int .i64) S.b, .own 2, .int .u64 S.v], .row false 16 EvT S.ev, .struct [.str S.o, .own 4, .mp 5], .row false 72 OutT S.l, .map false .str (.int .u64) S.m]
 | 2 => [.struct [.ptr 1 0, .ptr 3 0, .nilp, .int .i64 S.tries, .sl true 56 LetT S.poi], .struct [.arr 8 (.int .i64) S.b, .own 2, .int .u64 S.v], .row false 16 EvT S.ev, .struct [.own 4], .row false 56 LetT S.inb]
 | _ => [.struct [.nilp, .nilp, .nilp, .int .i64 0, .nils]]
def onLack (hp : List SB) (k : Prop) : Prop := (∃ n S, hp = lackH n S) ∧ k
def C44 : Contract := fun args hp K => match args with
 | [.ptr 0 0] => (onA hp fun S => K (.str S.o) hp) ∨ (∃ S, hp = lackH 2 S ∧ K (.str ByteArray.empty) hp)
 | _ => False
theorem s44 : Sound Tryz.prog 44 C44 := by
 refine sound_of_okF ok44 (.cons s102 (callable_of_okF ok102) .nil) ?_
 intro args hp K h
 unfold C44 at h
 split at h
 ·rcases h with ⟨S, rfl, h⟩ | ⟨S, rfl, h⟩
  ·refine ⟨by simp, [], ?_⟩
   unfold acH at h ⊢
   simp (maxSteps:=9^9) only [a44, r44, C102, go_sem, Nat.reduceLeDiff, Nat.reduceSub, Nat.reduceLT, Nat.reduceBEq, Nat.reduceAdd]
   exact h
  ·refine ⟨by simp, [], ?_⟩
   unfold lackH at h ⊢
   simp (maxSteps:=9^9) only [a44, r44, C102, go_sem, Nat.reduceLeDiff, Nat.reduceSub, Nat.reduceBEq, Nat.reduceAdd]
   exact h
 ·exact h.elim
def sndS (t : Int) (n : Nat) (poi : List LetT.den) : Bool := decide (0 ≤ t) && (decide (t < 3) && (!(decide (0 < t) && decide (n = 0)) && (decide (poi.length ≤ 8) && poi.all fmL)))
def C36 : Contract := fun args hp K => match args, hp with
 | [.int .i64 t, .int .i64 n, .sl p 56 (.pair .str (.pair (.int .u64) (.pair (.int .i64) (.sl 8 (.int .i64))))) poi], [] => 0 ≤ n ∧ K (.bool (sndS t n.toNat poi)) []
 | _, _ => False
def L36 (p : Bool) (poi : List LetT.den) : LoopAnn := { G := Nat, I := fun i => ⟨[(2, .sl p 56 LetT poi), (28, .int .i64 poi.length), (29, .int .i64 i)], []⟩, R := fun _ i => i ≤ poi.length ∧ (poi.take i).all fmL = true, μ := fun i => poi.length - i }
theorem L36_I {p poi} (i : Nat) : (L36 p poi).I i = ⟨[(2, .sl p 56 LetT poi), (28, .int .i64 poi.length), (29, .int .i64 i)], []⟩ := rfl
theorem all_false {α : Type} {f : α → Bool} {l : List α} {x : α} (h : x ∈ l) (hx : f x = false) : l.all f = false := by
 cases ht : l.all f with
 | false => rfl
 | true => rw [List.all_eq_true.1 ht x h] at hx; cases hx
theorem s36 : Sound Tryz.prog 36 C36 := by
 refine sound_of_okF ok36 (.cons s77 (callable_of_okF ok77) .nil) ?_
 intro args hp K h
 unfold C36 at h
 split at h
 ·rename_i t n p poi
  obtain ⟨hn, h⟩ := h
  refine ⟨by simp, [(1, L36 p poi)], ?_⟩
  simp (maxSteps:=9^9) only [a36, r36, go_sem, Nat.reduceBEq, Nat.reduceAdd]
  have hmx := maxLen_val
  have fail : sndS t n.toNat poi = false → K (.bool false) [] := fun hf => by rw [hf] at h; exact h
  rintro c rfl
  refine sw_intro (fun h1 => fail ?_) (fun h1 => ?_) <;> simp only [decide_eq_true_eq, decide_eq_false_iff_not] at h1
  ·unfold sndS; rw [decide_eq_false (p := 0 ≤ t) (by omega)]; rfl
  rintro c rfl
  refine sw_intro (fun h2 => fail ?_) (fun h2 => ?_) <;> simp only [decide_eq_true_eq, decide_eq_false_iff_not] at h2
  ·unfold sndS; rw [decide_eq_false (p := t < 3) (by omega)]; simp
  have good : (0 < t → n ≠ 0) → poi.length ≤ 8 → sndS t n.toNat poi = poi.all fmL := fun h3 h4 => by
   unfold sndS
   rw [decide_eq_true (p := 0 ≤ t) (by omega), decide_eq_true (p := t < 3) (by omega), decide_eq_true h4]
   by_cases h5 : 0 < t
   ·have := h3 h5
    rw [decide_eq_true h5, decide_eq_false (p := n.toNat = 0) (by omega)]; simp
   ·rw [decide_eq_false h5]; simp
  have bad : 8 < poi.length → sndS t n.toNat poi = false := fun h4 => by
   unfold sndS
   rw [decide_eq_false (p := poi.length ≤ 8) (by omega)]; simp
  rintro c rfl
  refine sw_intro (fun h3 => ?_) (fun h3 => ?_) <;> simp only [decide_eq_true_eq, decide_eq_false_iff_not] at h3
  ·rintro c rfl
   refine sw_intro (fun h5 => fail ?_) (fun h5 => ?_) <;> simp only [decide_eq_true_eq, decide_eq_false_iff_not] at h5
   ·unfold sndS; rw [decide_eq_true h3, h5]; simp
   replace good := good (fun _ => h5)
   clear h3 h5
   rintro _ _ m rfl c rfl
   refine sw_intro (fun h4 => fail (bad (by simp only [decide_eq_true_eq] at h4; omega))) (fun h4 => ?_)
   simp only [decide_eq_false_iff_not] at h4
   rw [good (by omega)] at h fail
   rintro _ _ m rfl
   refine loop_intro (A := L36 p poi) (0 : Nat) ?_ ⟨Nat.zero_le _, by simp⟩ ?_
   ·simp (maxSteps:=9^9) only [L36_I, go_sem, Nat.reduceBEq]
    rfl
   ·intro (i : Nat) (hi : i ≤ poi.length ∧ (poi.take i).all fmL = true)
    obtain ⟨hi, ha⟩ := hi
    simp (maxSteps:=9^9) only [L36_I, C77, C74, go_sem, Nat.reduceLeDiff, Nat.reduceSub, Nat.reduceBEq, Nat.reduceAdd]
    rintro c rfl
    refine sw_intro (fun hc => ?_) (fun hc => ?_) <;> simp only [decide_eq_true_eq, decide_eq_false_iff_not] at hc
    ·refine nd_intro hc (sw_intro (fun hf => ?_) (fun hf => fail (all_false (elt_mem (t := LetT) hc) hf)))
     rintro _ _ m hm
     rw [w64 (by omega)] at hm
     subst hm
     refine lpE_intro (A := L36 p poi) (i + 1 : Nat) ?_ ⟨hc, ?_⟩ (by show poi.length - (i + 1) < poi.length - i; omega)
     ·simp (maxSteps:=9^9) only [L36_I, go_sem, Nat.reduceBEq]
      rfl
     ·rw [← take_elt (t := LetT) hc, List.all_append, ha]
      simpa [fmL] using hf
    ·obtain rfl : i = poi.length := by omega
     rw [List.take_length] at ha
     rw [ha] at h
     exact h
  ·replace good := good (fun h9 => absurd h9 h3)
   clear h3
   rintro _ _ m rfl c rfl
   refine sw_intro (fun h4 => fail (bad (by simp only [decide_eq_true_eq] at h4; omega))) (fun h4 => ?_)
   simp only [decide_eq_false_iff_not] at h4
   rw [good (by omega)] at h fail
   rintro _ _ m rfl
   refine loop_intro (A := L36 p poi) (0 : Nat) ?_ ⟨Nat.zero_le _, by simp⟩ ?_
   ·simp (maxSteps:=9^9) only [L36_I, go_sem, Nat.reduceBEq]
    rfl
   ·intro (i : Nat) (hi : i ≤ poi.length ∧ (poi.take i).all fmL = true)
    obtain ⟨hi, ha⟩ := hi
    simp (maxSteps:=9^9) only [L36_I, C77, C74, go_sem, Nat.reduceLeDiff, Nat.reduceSub, Nat.reduceBEq, Nat.reduceAdd]
    rintro c rfl
    refine sw_intro (fun hc => ?_) (fun hc => ?_) <;> simp only [decide_eq_true_eq, decide_eq_false_iff_not] at hc
    ·refine nd_intro hc (sw_intro (fun hf => ?_) (fun hf => fail (all_false (elt_mem (t := LetT) hc) hf)))
     rintro _ _ m hm
     rw [w64 (by omega)] at hm
     subst hm
     refine lpE_intro (A := L36 p poi) (i + 1 : Nat) ?_ ⟨hc, ?_⟩ (by show poi.length - (i + 1) < poi.length - i; omega)
     ·simp (maxSteps:=9^9) only [L36_I, go_sem, Nat.reduceBEq]
      rfl
     ·rw [← take_elt (t := LetT) hc, List.all_append, ha]
      simpa [fmL] using hf
    ·obtain rfl : i = poi.length := by omega
     rw [List.take_length] at ha
     rw [ha] at h
     exact h
 ·exact h.elim
def C56 : Contract := fun args hp K => match args with
 | [.nilp] => hp = [] ∧ K (.bool false) []
 | [.ptr 0 0] => (onA hp fun S => S.inb.length ≤ 1000 ∧ S.o ≠ ByteArray.empty ∧ K (.bool (sndS S.tries S.inb.length S.poi)) hp) ∨ onLack hp (K (.bool false) hp)
 | _ => False
def L56 (S : ActS) : LoopAnn := { G := Nat, I := fun i => ⟨[(66, .sl true 56 LetT S.poi), (67, .int .i64 S.poi.length), (68, .int .i64 i)], acH false S⟩, R := fun _ i => i ≤ S.poi.length ∧ (S.poi.take i).all fmL = true, μ := fun i => S.poi.length - i }
theorem L56_I {S} (i : Nat) : (L56 S).I i = ⟨[(66, .sl true 56 LetT S.poi), (67, .int .i64 S.poi.length), (68, .int .i64 i)], acH false S⟩ := rfl
theorem s56 : Sound Tryz.prog 56 C56 := by
 refine sound_of_okF ok56 (.cons s44 (callable_of_okF ok44) (.cons s11 (callable_of_okF ok11) (.cons s74 (callable_of_okF ok74) .nil))) ?_
 intro args hp K h
 unfold C56 at h
 split at h
 ·obtain ⟨rfl, h⟩ := h
  refine ⟨by simp, [], ?_⟩
  simp (maxSteps:=9^9) only [a56, r56, go_sem, Nat.reduceBEq]
  exact h
 ·rcases h with ⟨S, rfl, hi, ho, h⟩ | ⟨⟨k, S, rfl⟩, h⟩
  ·refine ⟨by simp, [(1, L56 S)], ?_⟩
   unfold acH at h ⊢
   simp (maxSteps:=9^9) only [a56, r56, C44, C11, go_sem, Nat.reduceLeDiff, Nat.reduceSub, Nat.reduceLT, Nat.reduceBEq, Nat.reduceAdd]
   obtain ⟨o, l, m, b, ev, v, inb, tries, poi⟩ := S
   simp only at hi ho h ⊢
   have hmx := maxLen_val
   have fail : sndS tries inb.length poi = false → K (.bool false) _ := fun hf => by rw [hf] at h; exact h
   refine .inl ?_
   rintro c rfl
   refine sw_intro (fun h0 => absurd (by simpa using h0) ho) (fun _ => ?_)
   rintro c rfl
   refine sw_intro (fun h1 => fail ?_) (fun h1 => ?_) <;> simp only [decide_eq_true_eq, decide_eq_false_iff_not] at h1
   ·unfold sndS; rw [decide_eq_false (p := 0 ≤ tries) (by omega)]; rfl
   rintro c rfl
   refine sw_intro (fun h2 => fail ?_) (fun h2 => ?_) <;> simp only [decide_eq_true_eq, decide_eq_false_iff_not] at h2
   ·unfold sndS; rw [decide_eq_false (p := tries < 3) (by omega)]; simp
   have good : (0 < tries → inb.length ≠ 0) → poi.length ≤ 8 → sndS tries inb.length poi = poi.all fmL := fun h3 h4 => by
    unfold sndS
    rw [decide_eq_true (p := 0 ≤ tries) (by omega), decide_eq_true (p := tries < 3) (by omega), decide_eq_true h4]
    by_cases h5 : 0 < tries
    ·have := h3 h5
     rw [decide_eq_true h5, decide_eq_false (p := inb.length = 0) this]; simp
    ·rw [decide_eq_false h5]; simp
   have bad : 8 < poi.length → sndS tries inb.length poi = false := fun h4 => by
    unfold sndS
    rw [decide_eq_false (p := poi.length ≤ 8) (by omega)]; simp
   rintro c rfl
   refine sw_intro (fun h3 => ?_) (fun h3 => ?_) <;> simp only [decide_eq_true_eq, decide_eq_false_iff_not] at h3
   ·refine ⟨hi, ?_⟩
    rintro c rfl
    refine sw_intro (fun h5 => fail ?_) (fun h5 => ?_) <;> simp only [decide_eq_true_eq, decide_eq_false_iff_not] at h5
    ·unfold sndS; rw [decide_eq_true h3, decide_eq_true (p := inb.length = 0) (by omega)]; simp
    replace good := good (fun _ => by omega)
    clear h3 h5
    rintro _ _ m rfl c rfl
    refine sw_intro (fun h4 => fail (bad (by simp only [decide_eq_true_eq] at h4; omega))) (fun h4 => ?_)
    simp only [decide_eq_false_iff_not] at h4
    rw [good (by omega)] at h fail
    rintro _ _ m rfl
    refine loop_intro (A := L56 ⟨o, l, m, b, ev, v, inb, tries, poi⟩) (0 : Nat) ?_ ⟨Nat.zero_le _, by simp⟩ ?_
    ·simp (maxSteps:=9^9) only [L56_I, acH, go_sem, Nat.reduceBEq, Nat.reduceAdd]
     rfl
    ·intro (i : Nat) (hi : i ≤ poi.length ∧ (poi.take i).all fmL = true)
     obtain ⟨hi, ha⟩ := hi
     simp (maxSteps:=9^9) only [L56_I, acH, C74, go_sem, Nat.reduceLeDiff, Nat.reduceSub, Nat.reduceBEq, Nat.reduceAdd]
     rintro c rfl
     refine sw_intro (fun hc => ?_) (fun hc => ?_) <;> simp only [decide_eq_true_eq, decide_eq_false_iff_not] at hc
     ·refine nd_intro hc (sw_intro (fun hf => ?_) (fun hf => fail (all_false (elt_mem (t := LetT) hc) hf)))
      rintro _ _ m hm
      rw [w64 (by omega)] at hm
      subst hm
      refine lpE_intro (A := L56 ⟨o, l, m, b, ev, v, inb, tries, poi⟩) (i + 1 : Nat) ?_ ⟨hc, ?_⟩ (by show poi.length - (i + 1) < poi.length - i; omega)
      ·simp (maxSteps:=9^9) only [L56_I, acH, go_sem, Nat.reduceBEq, Nat.reduceAdd]
       rfl
      ·rw [← take_elt (t := LetT) hc, List.all_append, ha]
       simpa [fmL] using hf
     ·obtain rfl : i = poi.length := by omega
      rw [List.take_length] at ha
      rw [ha] at h
      exact h
   ·replace good := good (fun h9 => absurd h9 h3)
    clear h3
    rintro _ _ m rfl c rfl
    refine sw_intro (fun h4 => fail (bad (by simp only [decide_eq_true_eq] at h4; omega))) (fun h4 => ?_)
    simp only [decide_eq_false_iff_not] at h4
    rw [good (by omega)] at h fail
    rintro _ _ m rfl
    refine loop_intro (A := L56 ⟨o, l, m, b, ev, v, inb, tries, poi⟩) (0 : Nat) ?_ ⟨Nat.zero_le _, by simp⟩ ?_
    ·simp (maxSteps:=9^9) only [L56_I, acH, go_sem, Nat.reduceBEq, Nat.reduceAdd]
     rfl
    ·intro (i : Nat) (hi : i ≤ poi.length ∧ (poi.take i).all fmL = true)
     obtain ⟨hi, ha⟩ := hi
     simp (maxSteps:=9^9) only [L56_I, acH, C74, go_sem, Nat.reduceLeDiff, Nat.reduceSub, Nat.reduceBEq, Nat.reduceAdd]
     rintro c rfl
     refine sw_intro (fun hc => ?_) (fun hc => ?_) <;> simp only [decide_eq_true_eq, decide_eq_false_iff_not] at hc
     ·refine nd_intro hc (sw_intro (fun hf => ?_) (fun hf => fail (all_false (elt_mem (t := LetT) hc) hf)))
      rintro _ _ m hm
      rw [w64 (by omega)] at hm
      subst hm
      refine lpE_intro (A := L56 ⟨o, l, m, b, ev, v, inb, tries, poi⟩) (i + 1 : Nat) ?_ ⟨hc, ?_⟩ (by show poi.length - (i + 1) < poi.length - i; omega)
      ·simp (maxSteps:=9^9) only [L56_I, acH, go_sem, Nat.reduceBEq, Nat.reduceAdd]
       rfl
      ·rw [← take_elt (t := LetT) hc, List.all_append, ha]
       simpa [fmL] using hf
     ·obtain rfl : i = poi.length := by omega
      rw [List.take_length] at ha
      rw [ha] at h
      exact h
  ·unfold lackH at h ⊢
   split at h
   ·refine ⟨by simp, [], ?_⟩
    simp (maxSteps:=9^9) only [a56, r56, go_sem, Nat.reduceBEq, Nat.reduceAdd]
    exact h
   ·refine ⟨by simp, [], ?_⟩
    simp (maxSteps:=9^9) only [a56, r56, go_sem, Nat.reduceSub, Nat.reduceBEq, Nat.reduceAdd]
    exact h
   ·refine ⟨by simp, [], ?_⟩
    simp (maxSteps:=9^9) only [a56, r56, C44, go_sem, Nat.reduceLeDiff, Nat.reduceSub, Nat.reduceLT, Nat.reduceBEq, Nat.reduceAdd]
    exact .inr ⟨S, rfl, h⟩
   ·refine ⟨by simp, [], ?_⟩
    simp (maxSteps:=9^9) only [a56, r56, go_sem, Nat.reduceBEq]
    exact h
 ·exact h.elim
end Go.V
namespace Go.V
open Go.Proofs
set_option maxRecDepth 100000
set_option maxHeartbeats 4000000
set_option linter.unusedSimpArgs false
set_option linter.unnecessarySimpa false
set_option linter.unusedVariables false
/-! ### an actor's bytes -/
def txB (bs : List UInt8) : List UInt8 := textB ⟨bs.toArray⟩
theorem txB_length (bs : List UInt8) : (txB bs).length ≤ bs.length + 9 := by
 have := textB_length ⟨bs.toArray⟩
 have h : (⟨bs.toArray⟩ : ByteArray).size = bs.length := by show bs.toArray.size = _; simp
 rw [h] at this
 exact this
def actB (S : ActS) (out : List UInt8) : List UInt8 := numB S.tries ++ txB (jB S.b S.ev S.v) ++ txB (packB S.inb) ++ txB out ++ txB (packB S.poi)
structure OkA (S : ActS) : Prop where
 b8 : S.b.length = 8
 ev : S.ev.all okEv = true
 e16 : S.ev.length ≤ 16
 in8 : S.inb.length ≤ 8
 inf : S.inb.all fmL = true
 out : OutOk S.o S.l S.m
structure RngA (S : ActS) : Prop where
 j : rngJ S.b S.ev
 inb : rngL S.inb
 l : rng S.l
 poi : rngL S.poi
theorem outE_len {o : ByteArray} {l : List OutT.den} {m : List (ByteArray × Int)} (ok : OutOk o l m) : (outE o l m).length ≤ 20000 := by
 have b1 := textB_len o ok.o40
 have b2 := (numB_length (m.length : Int)).2
 have b3 := (numB_length (l.length : Int)).2
 have b4 := keysE_len m (srtK (vt := .int .u64) m) (fun k hk => by
  obtain ⟨y, hy, rfl⟩ := srtK_mem hk
  exact ok.k40 y hy)
 have b5 := outsE_len l ok.x40
 have hsl := srtK_length (vt := .int .u64) m
 have h1 := ok.m64
 have h2 := ok.l32
 simp only [outE, List.length_append]
 omega
def C16 : Contract := fun args hp K => match args with
 | [.nilp] => hp = [] ∧ K (.tup [.own 0, .int .i64 1]) [.row true 1 .byte []]
 | [.ptr 0 0] => (onA hp fun S => OkA S ∧ (sndS S.tries S.inb.length S.poi = false → K (.tup [.own 8, .int .i64 1]) (acH false S ++ [.row true 1 .byte []])) ∧
   (sndS S.tries S.inb.length S.poi = true → RngA S → K (.tup [.own 8, .int .i64 0]) (acH false S ++ [.row true 1 .byte (actB S (outE S.o S.l S.m))]))) ∨
   (∃ n S, hp = lackH n S ∧ K (.tup [.own hp.length, .int .i64 1]) (hp ++ [.row true 1 .byte []]))
 | _ => False
def bl4 (S : ActS) : List (List UInt8) := [jB S.b S.ev S.v, packB S.inb, outE S.o S.l S.m, packB S.poi]
def txsB (l : List (List UInt8)) : List UInt8 := l.flatMap txB
theorem txsB_snoc (l : List (List UInt8)) (x : List UInt8) : txsB (l ++ [x]) = txsB l ++ txB x := by simp [txsB]
theorem txsB_length (l : List (List UInt8)) (h : ∀ x ∈ l, x.length ≤ 100000) : (txsB l).length ≤ 100009 * l.length := by
 induction l with
 | nil => simp [txsB]
 | cons x r ih =>
  have := ih (fun y hy => h y (List.mem_cons_of_mem _ hy))
  have h1 := txB_length x
  have h2 := h x (by simp)
  simp only [txsB, List.flatMap_cons, List.length_append, List.length_cons] at this ⊢
  omega
theorem bl4_le {S : ActS} (ok : OkA S) (hp : S.poi.length ≤ 8 ∧ S.poi.all fmL = true) : ∀ x ∈ bl4 S, x.length ≤ 100000 := by
 have h1 := jB_length S.b S.ev S.v
 have h2 := packB_length S.inb ok.inf
 have h3 := outE_len ok.out
 have h4 := packB_length S.poi hp.2
 have h5 := ok.b8
 have h6 := ok.e16
 have h7 := ok.in8
 intro x hx
 simp only [bl4, List.mem_cons, List.mem_nil_iff, or_false] at hx
 rcases hx with rfl | rfl | rfl | rfl <;> omega
def L16 (S : ActS) : LoopAnn := cntA (fun i => ⟨[(6, .ptr 8 0), (44, .own 10), (45, .int .i64 4), (46, .int .i64 i)], acH false S ++ [.struct [.own 9], .row true 1 .byte (numB S.tries ++ txsB ((bl4 S).take i)), .row true 24 (.sl 1 .byte) (bl4 S)]⟩) 4
theorem sndS_poi {t : Int} {n : Nat} {poi : List LetT.den} (h : sndS t n poi = true) : (0 ≤ t ∧ t < 3) ∧ poi.length ≤ 8 ∧ poi.all fmL = true := by
 unfold sndS at h
 simp only [Bool.and_eq_true, decide_eq_true_eq] at h
 exact ⟨⟨h.1, h.2.1⟩, h.2.2.2⟩
theorem s16 : Sound Tryz.prog 16 C16 := by
 refine sound_of_okF ok16 (.cons s56 (callable_of_okF ok56) (.cons s57 (callable_of_okF ok57) (.cons s58 (callable_of_okF ok58) (.cons s59 (callable_of_okF ok59) (.cons s60 (callable_of_okF ok60) (.cons s61 (callable_of_okF ok61) (.cons s34 (callable_of_okF ok34) (.cons s62 (callable_of_okF ok62) (.cons s63 (callable_of_okF ok63) .nil))))))))) ?_
 intro args hp K h
 unfold C16 at h
 split at h
 ·obtain ⟨rfl, h⟩ := h
  refine ⟨by simp, [], ?_⟩
  simp (maxSteps:=9^9) only [a16, r16, C56, go_sem, Nat.reduceBEq]
  exact h
 ·rcases h with ⟨S, rfl, hk, h1, h2⟩ | ⟨k, S, rfl, h⟩
  ·refine ⟨by simp, [(1, L16 S)], ?_⟩
   unfold acH at h1 h2 ⊢
   simp (maxSteps:=9^9) only [a16, r16, C56, C57, C58, C59, C60, C61, C34, wrH, jH, inH, obH, go_sem, Nat.reduceLeDiff, Nat.reduceSub, Nat.reduceMul, Nat.reduceLT, Nat.reduceBEq, Nat.reduceAdd]
   refine .inl ⟨by have := hk.in8; omega, hk.out.o0, sw_intro (fun hs => ?_) (fun hs => h1 hs)⟩
   obtain ⟨ht, hp8, hpf⟩ := sndS_poi hs
   refine ⟨by omega, ?_, fun h9 => by rw [hpf] at h9; cases h9⟩
   rintro _ r1 _ m hm
   rw [wu64 (by omega)] at hm
   subst hm
   refine ⟨hk.b8, hk.ev, hk.e16, fun r2 => ⟨hk.in8, hk.inf, fun r3 => ⟨hk.out, fun r4 => ?_⟩⟩⟩
   have h2 := h2 hs ⟨r2, r3, r4, r1⟩
   have hle := bl4_le hk ⟨hp8, hpf⟩
   have hmx := maxLen_val
   have b1 := (numB_length S.tries).2
   rintro _ m rfl
   refine loop_intro (A := L16 S) (0 : Nat) ?_ (Nat.zero_le _) ?_
   ·simp (maxSteps:=9^9) only [L16, cntA_I, acH, go_sem, Nat.reduceBEq, Nat.reduceAdd]
    simp [txsB, bl4]
   ·intro (i : Nat) (hi : i ≤ 4)
    simp (maxSteps:=9^9) only [L16, cntA_I, acH, C62, C63, wrH, go_sem, Nat.reduceSub, Nat.reduceLT, Nat.reduceBEq, Nat.reduceAdd]
    have hl4 : (bl4 S).length = 4 := rfl
    have b2 := txsB_length ((bl4 S).take i) (fun x hx => hle x (List.mem_of_mem_take hx))
    have b3 : ((bl4 S).take i).length ≤ 4 := by rw [List.length_take]; omega
    rintro c rfl
    refine sw_intro (fun hc => ?_) (fun hc => ?_) <;> simp only [decide_eq_true_eq, decide_eq_false_iff_not] at hc
    ·have hc' : i < 4 := by omega
     refine nd_intro (by omega) ?_
     have hx := hle _ (elt_mem (t := .sl 1 .byte) (xs := bl4 S) (by omega : i < (bl4 S).length))
     rintro u rfl
     have hu : (⟨List.toArray (elt (.sl 1 .byte) (bl4 S) i)⟩ : ByteArray).size = (elt (.sl 1 .byte) (bl4 S) i : List UInt8).length := by show (List.toArray _).size = _; simp
     refine ⟨by rw [hu]; simp only [List.length_append]; omega, ?_⟩
     rintro _ _ m hm
     rw [w64 (by omega)] at hm
     subst hm
     refine cntA_next hc' ?_
     simp (maxSteps:=9^9) only [go_sem, Nat.reduceBEq, Nat.reduceAdd]
     rw [← take_elt (t := .sl 1 .byte) (l := bl4 S) (i := i) (by rw [hl4]; exact hc'), txsB_snoc]
     simp only [List.append_assoc]
     rfl
    ·obtain rfl : i = 4 := by omega
     have e : numB S.tries ++ txsB ((bl4 S).take 4) = actB S (outE S.o S.l S.m) := by simp [bl4, txsB, actB]
     rw [e]
     exact h2
  ·unfold lackH at h ⊢
   split at h
   ·refine ⟨by simp, [], ?_⟩
    simp (maxSteps:=9^9) only [a16, r16, C56, go_sem, Nat.reduceLeDiff, Nat.reduceSub, Nat.reduceLT, Nat.reduceBEq, Nat.reduceAdd]
    exact .inr ⟨⟨0, S, rfl⟩, h⟩
   ·refine ⟨by simp, [], ?_⟩
    simp (maxSteps:=9^9) only [a16, r16, C56, go_sem, Nat.reduceLeDiff, Nat.reduceSub, Nat.reduceLT, Nat.reduceBEq, Nat.reduceAdd]
    exact .inr ⟨⟨1, S, rfl⟩, h⟩
   ·refine ⟨by simp, [], ?_⟩
    simp (maxSteps:=9^9) only [a16, r16, C56, go_sem, Nat.reduceLeDiff, Nat.reduceSub, Nat.reduceLT, Nat.reduceBEq, Nat.reduceAdd]
    exact .inr ⟨⟨2, S, rfl⟩, h⟩
   ·refine ⟨by simp, [], ?_⟩
    simp (maxSteps:=9^9) only [a16, r16, C56, go_sem, Nat.reduceLeDiff, Nat.reduceSub, Nat.reduceBEq]
    exact .inr ⟨⟨3, S, rfl⟩, h⟩
 ·exact h.elim
def C105 : Contract := fun args hp K => match args with
 | [.ptr 0 0] => onOb hp fun o l m => o ≠ ByteArray.empty ∧ K (.bool (decide (m.length = 0) && decide (l.length = 0))) hp
 | _ => False
theorem s105 : Sound Tryz.prog 105 C105 := by
 refine sound_of_okF ok105 (.cons s79 (callable_of_okF ok79) .nil) ?_
 intro args hp K h
 unfold C105 at h
 split at h
 ·obtain ⟨o, l, m, rfl, h0, h⟩ := h
  refine ⟨by simp, [], ?_⟩
  unfold obH at h ⊢
  simp (maxSteps:=9^9) only [a105, r105, C79, go_sem, Nat.reduceLeDiff, Nat.reduceSub, Nat.reduceLT, Nat.reduceBEq, Nat.reduceAdd]
  refine sw_intro (fun h9 => absurd (by simpa using h9) h0) (fun _ => ?_)
  rintro _ m1 rfl c rfl
  refine sw_intro (fun hc => ?_) (fun hc => ?_) <;> simp only [decide_eq_true_eq, decide_eq_false_iff_not] at hc
  ·rintro _ _ m2 rfl c rfl
   rw [decide_eq_true (p := m.length = 0) (by omega), Bool.true_and] at h
   by_cases hl : l.length = 0
   ·rw [decide_eq_true hl] at h
    rw [decide_eq_true (by omega)]
    exact h
   ·rw [decide_eq_false hl] at h
    rw [decide_eq_false (by omega)]
    exact h
  ·rw [decide_eq_false (p := m.length = 0) (by omega), Bool.false_and] at h
   exact h
 ·exact h.elim
end Go.V
namespace Go.V
open Go.Proofs
set_option maxRecDepth 100000
set_option maxHeartbeats 4000000
set_option linter.unusedSimpArgs false
set_option linter.unnecessarySimpa false
set_option linter.unusedVariables false
def frS (S : ActS) : Bool := decide (S.v = 0 ∧ S.inb.length = 0 ∧ (S.m.length = 0 ∧ S.l.length = 0) ∧ S.tries = 0 ∧ S.poi.length = 0)
def C54 : Contract := fun args hp K => match args with
 | [.ptr 0 0] => onA hp fun S => S.inb.length ≤ 1000 ∧ S.o ≠ ByteArray.empty ∧ K (.bool (frS S)) hp
 | _ => False
theorem s54 : Sound Tryz.prog 54 C54 := by
 refine sound_of_okF ok54 (.cons s52 (callable_of_okF ok52) (.cons s11 (callable_of_okF ok11) (.cons s105 (callable_of_okF ok105) .nil))) ?_
 intro args hp K h
 unfold C54 at h
 split at h
 ·obtain ⟨S, rfl, hi, ho, h⟩ := h
  refine ⟨by simp, [], ?_⟩
  obtain ⟨o, l, m, b, ev, v, inb, tries, poi⟩ := S
  unfold acH at h ⊢
  simp (maxSteps:=9^9) only [a54, r54, C52, C11, C105, go_sem, Nat.reduceLeDiff, Nat.reduceSub, Nat.reduceLT, Nat.reduceBEq, Nat.reduceAdd]
  simp only at hi ho h
  have fail : ¬ (v = 0 ∧ inb.length = 0 ∧ (m.length = 0 ∧ l.length = 0) ∧ tries = 0 ∧ poi.length = 0) → K (.bool false) _ := fun hf => by rw [frS, decide_eq_false hf] at h; exact h
  have good : (v = 0 ∧ inb.length = 0 ∧ (m.length = 0 ∧ l.length = 0) ∧ tries = 0 ∧ poi.length = 0) → K (.bool true) _ := fun hf => by rw [frS, decide_eq_true hf] at h; exact h
  rintro c rfl
  refine sw_intro (fun h1 => ⟨hi, ?_⟩) (fun h1 => fail (fun hh => by simp [hh.1] at h1))
  rintro c rfl
  refine sw_intro (fun h2 => ⟨ho, sw_intro (fun h3 => ?_) (fun h3 => fail (fun hh => by simp [hh.2.2.1.1, hh.2.2.1.2] at h3))⟩) (fun h2 => fail (fun hh => by simp [hh.2.1] at h2))
  rintro c rfl
  refine sw_intro (fun h4 => ?_) (fun h4 => fail (fun hh => by simp [hh.2.2.2.1] at h4))
  simp only [Bool.and_eq_true, decide_eq_true_eq] at h1 h2 h3 h4
  rintro _ _ m1 rfl c rfl
  by_cases h5 : poi.length = 0
  ·rw [decide_eq_true (by omega)]
   exact good ⟨h1, by omega, h3, h4, h5⟩
  ·rw [decide_eq_false (by omega)]
   exact fail (fun hh => h5 hh.2.2.2.2)
 ·exact h.elim
def C55 : Contract := fun args hp K => match args with
 | [.ptr 0 0] => onW hp fun S => S.m.length ≤ 1000 ∧ K (.bool (frS S)) hp
 | _ => False
theorem s55 : Sound Tryz.prog 55 C55 := by
 refine sound_of_okF ok55 (.cons s48 (callable_of_okF ok48) .nil) ?_
 intro args hp K h
 unfold C55 at h
 split at h
 ·obtain ⟨S, rfl, hm, h⟩ := h
  refine ⟨by simp, [], ?_⟩
  obtain ⟨o, l, m, b, ev, v, inb, tries, poi⟩ := S
  unfold wcH at h ⊢
  simp (maxSteps:=9^9) only [a55, r55, C48, go_sem, Nat.reduceLeDiff, Nat.reduceSub, Nat.reduceMul, Nat.reduceLT, Nat.reduceBEq, Nat.reduceAdd]
  simp only at hm h
  have fail : ¬ (v = 0 ∧ inb.length = 0 ∧ (m.length = 0 ∧ l.length = 0) ∧ tries = 0 ∧ poi.length = 0) → K (.bool false) _ := fun hf => by rw [frS, decide_eq_false hf] at h; exact h
  have good : (v = 0 ∧ inb.length = 0 ∧ (m.length = 0 ∧ l.length = 0) ∧ tries = 0 ∧ poi.length = 0) → K (.bool true) _ := fun hf => by rw [frS, decide_eq_true hf] at h; exact h
  rintro c rfl
  refine sw_intro (fun h1 => ?_) (fun h1 => fail (fun hh => by simp [hh.1] at h1))
  rintro _ _ m1 rfl c rfl
  refine sw_intro (fun h2 => ?_) (fun h2 => fail (fun hh => by simp [hh.2.1] at h2))
  rintro _ _ m1 rfl c rfl
  refine sw_intro (fun h3 => ?_) (fun h3 => fail (fun hh => by simp [hh.2.2.1.2] at h3))
  rintro _ _ m1 rfl c rfl
  rw [List.length_map]
  refine sw_intro (fun h6 => ?_) (fun h6 => fail (fun hh => by simp [hh.2.2.1.1] at h6))
  rintro c rfl
  refine sw_intro (fun h4 => ?_) (fun h4 => fail (fun hh => by simp [hh.2.2.2.1] at h4))
  simp only [Bool.and_eq_true, decide_eq_true_eq] at h1 h2 h3 h4 h6
  rintro _ _ m1 rfl c rfl
  by_cases h5 : poi.length = 0
  ·rw [decide_eq_true (by omega)]
   exact good ⟨h1, by omega, ⟨by omega, by omega⟩, h4, h5⟩
  ·rw [decide_eq_false (by omega)]
   exact fail (fun hh => h5 hh.2.2.2.2)
 ·exact h.elim
end Go.V
namespace Go.V
open Go.Proofs
set_option maxRecDepth 100000
set_option maxHeartbeats 4000000
set_option linter.unusedSimpArgs false
set_option linter.unnecessarySimpa false
set_option linter.unusedVariables false
/-! ### both actors, made of parts -/
def wc8 (mv : Bool) (S : ActS) : List SB := [.struct [.ptr 9 0, .ptr 11 0, .ptr 13 0, .int .i64 S.tries, .sl true 56 LetT S.poi], .struct [.arr 8 (.int .i64) S.b, .own 10, .int .u64 S.v], .row mv 16 EvT S.ev, .struct [.own 12], .row mv 56 LetT S.inb,
 .struct [.str S.o, .own 14, .own 15], .row mv 72 OutT S.l, .row mv 24 LastT S.m]
def twoH (S : ActS) (ls : List LastT.den) : List SB := acH true S ++ wc8 true { S with m := ls }
structure GoodA (S : ActS) (ls : List LastT.den) (B : Int) : Prop where
 b8 : S.b.length = 8
 ev : S.ev.all okEv = true
 e16 : S.ev.length ≤ 16
 in8 : S.inb.length ≤ 8
 inf : S.inb.all fmL = true
 inv : Inv S.o S.l ls B
 rel : Rel S.m ls
theorem GoodA.ok {S : ActS} {ls : List LastT.den} {B : Int} (h : GoodA S ls B) : OkA S := ⟨h.b8, h.ev, h.e16, h.in8, h.inf, h.inv.outOk.rel h.inv.keys h.rel⟩
structure PartsOk (letters : List LetT.den) (to : List ByteArray) (events : List EvT.den) (poison : List LetT.den) : Prop where
 l : 0 ≤ letters.length
 t : 0 ≤ to.length
 e : events.length ≤ 1000
 p : 0 ≤ poison.length
def C8 : Contract := fun args hp K => match args, hp with
 | [.str key, .sl p1 56 (.pair .str (.pair (.int .u64) (.pair (.int .i64) (.sl 8 (.int .i64))))) letters, .sl p2 16 .str to, .sl p3 16 (.pair (.int .i64) (.int .i64)) events, .int .i64 tries, .sl p4 56 (.pair .str (.pair (.int .u64) (.pair (.int .i64) (.sl 8 (.int .i64))))) poison], [] =>
   PartsOk letters to events poison ∧ (keyOk key = false → K (.tup [.nilp, .nilp]) []) ∧
   (keyOk key = true → ∀ S ls, S.o = key → S.tries = tries → S.poi = poison → S.inb.length ≤ (letters : List LetT.den).length → (∀ x ∈ S.inb, x ∈ (letters : List LetT.den)) → GoodA S ls 140737488355328 → (S.ev.length : Int) ≤ S.v ∧ S.v ≤ (events : List EvT.den).length → K (.tup [.ptr 0 0, .ptr 8 0]) (twoH S ls))
 | _, _ => False
structure G8 where
 i : Nat
 inb : List LetT.den
def A8 (key : ByteArray) (p1 p2 p3 p4 : Bool) (letters : List LetT.den) (to : List ByteArray) (events : List EvT.den) (tries : Int) (poison : List LetT.den) : LoopAnn := { G := G8, I := fun g => ⟨[(1, .sl p1 56 LetT letters), (2, .sl p2 16 .str to), (3, .sl p3 16 EvT events), (4, .int .i64 tries), (5, .sl p4 56 LetT poison), (14, .ptr 0 0), (16, .ptr 8 0), (43, .int .i64 letters.length), (44, .int .i64 g.i)], twoH { (newS key) with inb := g.inb } []⟩, R := fun _ g => g.i ≤ letters.length ∧ g.inb.length ≤ g.i ∧ g.inb.length ≤ 8 ∧ g.inb.all fmL = true ∧ ∀ x ∈ g.inb, x ∈ letters, μ := fun g => letters.length - g.i }
theorem A8_I {key p1 p2 p3 p4 letters to events tries poison} (g : G8) : (A8 key p1 p2 p3 p4 letters to events tries poison).I g = ⟨[(1, .sl p1 56 LetT letters), (2, .sl p2 16 .str to), (3, .sl p3 16 EvT events), (4, .int .i64 tries), (5, .sl p4 56 LetT poison), (14, .ptr 0 0), (16, .ptr 8 0), (43, .int .i64 letters.length), (44, .int .i64 g.i)], twoH { (newS key) with inb := g.inb } []⟩ := rfl
structure H8 where
 i : Nat
 l : List OutT.den
 m : List (ByteArray × Int)
 ls : List LastT.den
def B8 (key : ByteArray) (p2 p3 p4 : Bool) (to : List ByteArray) (events : List EvT.den) (tries : Int) (poison : List LetT.den) : LoopAnn := { G := List LetT.den × H8, I := fun g => ⟨[(2, .sl p2 16 .str to), (3, .sl p3 16 EvT events), (4, .int .i64 tries), (5, .sl p4 56 LetT poison), (14, .ptr 0 0), (16, .ptr 8 0), (67, .int .i64 to.length), (68, .int .i64 g.2.i)], twoH { (newS key) with inb := g.1, l := g.2.l, m := g.2.m } g.2.ls⟩, R := fun g0 g => g.1 = g0.1 ∧ g.2.i ≤ to.length ∧ Inv key g.2.l g.2.ls g.2.i ∧ Rel g.2.m g.2.ls, μ := fun g => to.length - g.2.i }
theorem B8_I {key p2 p3 p4 to events tries poison} (g : List LetT.den × H8) : (B8 key p2 p3 p4 to events tries poison).I g = ⟨[(2, .sl p2 16 .str to), (3, .sl p3 16 EvT events), (4, .int .i64 tries), (5, .sl p4 56 LetT poison), (14, .ptr 0 0), (16, .ptr 8 0), (67, .int .i64 to.length), (68, .int .i64 g.2.i)], twoH { (newS key) with inb := g.1, l := g.2.l, m := g.2.m } g.2.ls⟩ := rfl
def D8 (key : ByteArray) (p3 p4 : Bool) (events : List EvT.den) (tries : Int) (poison : List LetT.den) : LoopAnn := { G := (ActS × List LastT.den) × Nat, I := fun g => ⟨[(3, .sl p3 16 EvT events), (4, .int .i64 tries), (5, .sl p4 56 LetT poison), (14, .ptr 0 0), (16, .ptr 8 0), (20, .own 16), (97, .int .i64 events.length), (98, .int .i64 g.2)], twoH g.1.1 g.1.2 ++ [.row true 16 EvT (events.take g.2)]⟩, R := fun g0 g => g.1 = g0.1 ∧ g.2 ≤ events.length, μ := fun g => events.length - g.2 }
theorem D8_I {key p3 p4 events tries poison} (g : (ActS × List LastT.den) × Nat) : (D8 key p3 p4 events tries poison).I g = ⟨[(3, .sl p3 16 EvT events), (4, .int .i64 tries), (5, .sl p4 56 LetT poison), (14, .ptr 0 0), (16, .ptr 8 0), (20, .own 16), (97, .int .i64 events.length), (98, .int .i64 g.2)], twoH g.1.1 g.1.2 ++ [.row true 16 EvT (events.take g.2)]⟩ := rfl
theorem s8 : Sound Tryz.prog 8 C8 := by
 refine sound_of_okF ok8 (.cons s18 (callable_of_okF ok18) (.cons s22 (callable_of_okF ok22) (.cons s19 (callable_of_okF ok19) (.cons s23 (callable_of_okF ok23) (.cons s24 (callable_of_okF ok24) (.cons s25 (callable_of_okF ok25) (.cons s26 (callable_of_okF ok26) (.cons s27 (callable_of_okF ok27) (.cons s28 (callable_of_okF ok28) .nil))))))))) ?_
 intro args hp K h
 unfold C8 at h
 split at h
 ·rename_i key p1 letters p2 to p3 events tries p4 poison
  obtain ⟨ok, h1, h2⟩ := h
  refine ⟨by simp, [(1, A8 key p1 p2 p3 p4 letters to events tries poison), (2, B8 key p2 p3 p4 to events tries poison), (3, D8 key p3 p4 events tries poison)], ?_⟩
  simp (maxSteps:=9^9) only [a8, r8, C18, C22, acH, wcH, newS, go_sem, Int.reduceEq, Nat.reduceLeDiff, Nat.reduceSub, Nat.reduceLT, Nat.reduceBEq, Nat.reduceAdd]
  have hmx := maxLen_val
  have nk : keyOk key = true → keyOk key = false → False := fun a b => by rw [a] at b; cases b
  refine ⟨fun hk => ⟨fun _ => ?_, fun h9 => (nk hk h9).elim⟩, fun hk => ⟨fun h9 => (nk h9 hk).elim, fun _ => h1 hk⟩⟩
  have h2 := h2 hk
  have hl1 := ok.l
  have hl2 := ok.t
  have hl3 := ok.e
  have hl4 := ok.p
  rintro _ _ m rfl
  refine loop_intro (A := A8 key p1 p2 p3 p4 letters to events tries poison) (⟨0, []⟩ : G8) ?_ ⟨Nat.zero_le _, by simp, by simp, by simp, by simp⟩ ?_
  ·simp (maxSteps:=9^9) only [A8_I, twoH, acH, wc8, newS, go_sem, Nat.reduceBEq, Nat.reduceAdd]
   rfl
  ·rintro ⟨i, inb⟩ ⟨hi, hii, hi8, hif, hsub⟩
   simp only at hi hii hi8 hif hsub
   simp (maxSteps:=9^9) only [A8_I, twoH, acH, wc8, newS, C19, C23, inH, go_sem, Nat.reduceLeDiff, Nat.reduceSub, Nat.reduceLT, Nat.reduceBEq, Nat.reduceAdd]
   have lp : ∀ (inb' : List LetT.den) (rest : List SB), inb'.length ≤ i + 1 → inb'.length ≤ 8 → inb'.all fmL = true → (∀ x ∈ inb', x ∈ letters) → i < letters.length → inR .i64 (i : Int) → inR .i64 1 → ∀ m : Int, m = IntKind.i64.wrap ((i : Int) + 1) → lpE (A8 key p1 p2 p3 p4 letters to events tries poison) 0 [1, 2, 3, 4, 5, 14, 16, 43, 44] (⟨0, []⟩ : G8) (⟨i, inb⟩ : G8)
     ⟨[(1, .sl p1 56 LetT letters), (2, .sl p2 16 .str to), (3, .sl p3 16 EvT events), (4, .int .i64 tries), (5, .sl p4 56 LetT poison), (14, .ptr 0 0), (16, .ptr 8 0), (43, .int .i64 letters.length), (44, .int .i64 m)],
      .struct [.ptr 1 0, .ptr 3 0, .ptr 5 0, .int .i64 0, .sl true 56 LetT []] :: .struct [.arr 8 (.int .i64) (List.replicate 8 0), .own 2, .int .u64 0] :: .row true 16 EvT [] :: .struct [.own 4] :: .row true 56 LetT inb' ::
      .struct [.str key, .own 6, .mp 7] :: .row true 72 OutT [] :: .map false .str (.int .u64) [] ::
      .struct [.ptr 9 0, .ptr 11 0, .ptr 13 0, .int .i64 0, .sl true 56 LetT []] :: .struct [.arr 8 (.int .i64) (List.replicate 8 0), .own 10, .int .u64 0] :: .row true 16 EvT [] :: .struct [.own 12] :: .row true 56 LetT inb' ::
      .struct [.str key, .own 14, .own 15] :: .row true 72 OutT [] :: .row true 24 LastT [] :: rest⟩ := by
    intro inb' rest q0 q1 q2 q4 q3 _ _ m hm
    rw [w64 (by omega)] at hm
    subst hm
    refine lpE_intro (A := A8 key p1 p2 p3 p4 letters to events tries poison) (⟨i + 1, inb'⟩ : G8) ?_ ⟨q3, q0, q1, q2, q4⟩ (by show letters.length - (i + 1) < letters.length - i; omega)
    simp (maxSteps:=9^9) only [A8_I, twoH, acH, wc8, newS, go_sem, Nat.reduceBEq, Nat.reduceAdd]
    rfl
   rintro c rfl
   refine sw_intro (fun hc => ?_) (fun hc => ?_) <;> simp only [decide_eq_true_eq, decide_eq_false_iff_not] at hc
   ·have hff : ∀ {x : Bool}, x = false → x = true → False := fun a b => by rw [a] at b; cases b
    have hpush : fmL ((elt LetT letters i).1, (elt LetT letters i).2.1, (elt LetT letters i).2.2.1, (elt LetT letters i).2.2.2) = true → inb.length < 8 → (inb ++ [((elt LetT letters i).1, (elt LetT letters i).2.1, (elt LetT letters i).2.2.1, (elt LetT letters i).2.2.2)]).length ≤ 8 ∧ (inb ++ [((elt LetT letters i).1, (elt LetT letters i).2.1, (elt LetT letters i).2.2.1, (elt LetT letters i).2.2.2)]).all fmL = true := fun a b =>
     ⟨by simp only [List.length_append, List.length_cons, List.length_nil]; omega, by rw [List.all_append, hif]; simp [a]⟩
    refine nd_intro hc ⟨hi8, fun f1 => nd_intro hc ⟨hi8, fun f2 => lp inb _ (by omega) hi8 hif hsub hc, fun f2 => (hff f1 f2).elim, fun f2 => (hff f1 f2).elim⟩, fun f1 g1 => nd_intro hc ⟨hi8, fun f2 => (hff f2 f1).elim, fun f2 g2 => lp inb _ (by omega) hi8 hif hsub hc, fun f2 g2 => absurd g2 (by omega)⟩, fun f1 g1 => nd_intro hc ⟨hi8, fun f2 => (hff f2 f1).elim, fun f2 g2 => absurd g2 (by omega), fun f2 g2 => lp _ _ (by simp only [List.length_append, List.length_cons, List.length_nil]; omega) (hpush f1 g1).1 (hpush f1 g1).2 (fun x hx => (List.mem_append.1 hx).elim (hsub x) (fun hx => by rw [List.mem_singleton.1 hx]; exact List.mem_of_getElem? (elt_get hc))) hc⟩⟩
   ·rintro _ _ m rfl
    refine loop_intro (A := B8 key p2 p3 p4 to events tries poison) (inb, (⟨0, [], [], []⟩ : H8)) ?_ ⟨rfl, Nat.zero_le _, Inv.new hk, Rel.nil⟩ ?_
    ·simp (maxSteps:=9^9) only [B8_I, twoH, acH, wc8, newS, go_sem, Nat.reduceBEq, Nat.reduceAdd]
     rfl
    ·rintro ⟨inb', ⟨i2, l, m, ls⟩⟩ ⟨e1, hi2, hI, hr⟩
     simp only at e1 hi2 hI hr
     subst e1
     simp (maxSteps:=9^9) only [B8_I, twoH, acH, wc8, newS, C24, C25, obH, rfH, go_sem, Nat.reduceLeDiff, Nat.reduceSub, Nat.reduceLT, Nat.reduceBEq, Nat.reduceAdd]
     have lp2 : ∀ (l' : List OutT.den) (m' : List (ByteArray × Int)) (ls' : List LastT.den) (rest : List SB), Inv key l' ls' ((i2 + 1 : Nat) : Int) → Rel m' ls' → i2 < to.length → inR .i64 (i2 : Int) → inR .i64 1 → ∀ q : Int, q = IntKind.i64.wrap ((i2 : Int) + 1) → lpE (B8 key p2 p3 p4 to events tries poison) 0 [2, 3, 4, 5, 14, 16, 67, 68] (inb', (⟨0, [], [], []⟩ : H8)) (inb', (⟨i2, l, m, ls⟩ : H8))
       ⟨[(2, .sl p2 16 .str to), (3, .sl p3 16 EvT events), (4, .int .i64 tries), (5, .sl p4 56 LetT poison), (14, .ptr 0 0), (16, .ptr 8 0), (67, .int .i64 to.length), (68, .int .i64 q)],
        .struct [.ptr 1 0, .ptr 3 0, .ptr 5 0, .int .i64 0, .sl true 56 LetT []] :: .struct [.arr 8 (.int .i64) (List.replicate 8 0), .own 2, .int .u64 0] :: .row true 16 EvT [] :: .struct [.own 4] :: .row true 56 LetT inb' ::
        .struct [.str key, .own 6, .mp 7] :: .row true 72 OutT l' :: .map false .str (.int .u64) m' ::
        .struct [.ptr 9 0, .ptr 11 0, .ptr 13 0, .int .i64 0, .sl true 56 LetT []] :: .struct [.arr 8 (.int .i64) (List.replicate 8 0), .own 10, .int .u64 0] :: .row true 16 EvT [] :: .struct [.own 12] :: .row true 56 LetT inb' ::
        .struct [.str key, .own 14, .own 15] :: .row true 72 OutT l' :: .row true 24 LastT ls' :: rest⟩ := by
      intro l' m' ls' rest q1 q2 q3 _ _ q hq
      rw [w64 (by omega)] at hq
      subst hq
      refine lpE_intro (A := B8 key p2 p3 p4 to events tries poison) (inb', (⟨i2 + 1, l', m', ls'⟩ : H8)) ?_ ⟨rfl, q3, q1, q2⟩ (by show to.length - (i2 + 1) < to.length - i2; omega)
      simp (maxSteps:=9^9) only [B8_I, twoH, acH, wc8, newS, go_sem, Nat.reduceBEq, Nat.reduceAdd]
      rfl
     rintro c rfl
     refine sw_intro (fun hc => ?_) (fun hc => ?_) <;> simp only [decide_eq_true_eq, decide_eq_false_iff_not] at hc
     ·have hl32 := hI.l32
      have hm64 := hI.m64
      have hml := hr.1
      have hne := keyOk_ne hk
      have hInx : Inv key l ls ((i2 + 1 : Nat) : Int) := hI.mono (by omega)
      have hlk := hr.2 (elt .str to i2)
      have conv : (32 ≤ l.length ∨ (lookM .str (.int .u64) m (elt .str to i2) = none ∧ 64 ≤ m.length)) ↔ (32 ≤ l.length ∨ (thereL ls (elt .str to i2) = none ∧ 64 ≤ ls.length)) := by rw [hlk, hml]
      refine nd_intro hc ⟨rfl, hne, by omega, by omega, fun a => nd_intro hc ⟨rfl, by omega, by omega, fun b => lp2 l m ls _ hInx hr hc, fun b => absurd b a, fun b => absurd b a⟩,
       fun a f => nd_intro hc ⟨rfl, by omega, by omega, fun b => absurd a b, fun b g => lp2 l m ls _ hInx hr hc, fun b g => absurd (conv.1 f) g⟩,
       fun a f s hs => nd_intro hc ⟨rfl, by omega, by omega, fun b => absurd a b, fun b g => absurd (conv.2 g) f, fun b g s' hs' => ?_⟩⟩
      have hss : s' = s := by rw [hs, hs', hlk]
      subst hss
      have hl' : l.length < 32 := by
       rcases Nat.lt_or_ge l.length 32 with h | h
       ·exact h
       ·exact absurd (.inl h) g
      have hls' : (setF ls (elt .str to i2) s').length ≤ 64 := by
       rw [setF_eq, setR_length]
       split
       ·rename_i hn
        rcases Nat.lt_or_ge ls.length 64 with h | h
        ·omega
        ·exact absurd (.inr ⟨by rw [thereL_eq]; exact hn, h⟩) g
       ·exact hm64
      have hI2 := hI.send (xs := [(i2 : Int)]) (by omega) (by omega) a (by simp) hl' hls' (i2 : Int) hs'
      exact lp2 _ _ _ _ (hI2.mono (by omega)) (hr.set _ s') hc
     ·obtain rfl : i2 = to.length := by omega
      have hI3 : Inv key l ls 140737488355328 := hI.mono (by omega)
      rintro _ _ q rfl
      refine loop_intro (A := D8 key p3 p4 events tries poison) ((({ (newS key) with inb := inb', l := l, m := m } : ActS), ls), (0 : Nat)) ?_ ⟨rfl, Nat.zero_le _⟩ ?_
      ·simp (maxSteps:=9^9) only [D8_I, twoH, acH, wc8, newS, go_sem, Nat.reduceBEq, Nat.reduceAdd]
       rfl
      ·rintro ⟨⟨S, ls2⟩, i3⟩ ⟨e1, hi3⟩
       simp only [Prod.mk.injEq] at e1 hi3
       obtain ⟨rfl, rfl⟩ := e1
       simp (maxSteps:=9^9) only [D8_I, twoH, acH, wc8, newS, go_sem, Nat.reduceLeDiff, Nat.reduceSub, Nat.reduceMul, Nat.reduceBEq, Nat.reduceAdd]
       rintro c rfl
       refine sw_intro (fun hc3 => ?_) (fun hc3 => ?_) <;> simp only [decide_eq_true_eq, decide_eq_false_iff_not] at hc3
       ·refine nd_intro hc3 ?_
        have hl : (events.take i3).length = i3 := by rw [List.length_take]; omega
        rw [hl]
        refine ⟨fun _ => by omega, ?_⟩
        rintro _ _ _ q hq
        rw [w64 (by omega)] at hq
        subst hq
        refine lpE_intro (A := D8 key p3 p4 events tries poison) ((({ (newS key) with inb := inb', l := l, m := m } : ActS), ls2), i3 + 1) ?_ ⟨rfl, hc3⟩ (by show events.length - (i3 + 1) < events.length - i3; omega)
        simp (maxSteps:=9^9) only [D8_I, twoH, acH, wc8, newS, go_sem, Nat.reduceBEq, Nat.reduceAdd]
        rw [← take_elt (t := EvT) hc3]
        rfl
       ·obtain rfl : i3 = events.length := by omega
        rw [List.take_length]
        refine ⟨rfl, ?_⟩
        simp (maxSteps:=9^9) only [C26, C27, C28, jH, go_sem, Nat.reduceLeDiff, Nat.reduceSub, Nat.reduceLT, Nat.reduceBEq, Nat.reduceAdd]
        have hff : ∀ {x : Bool}, x = false → x = true → False := fun a b => by rw [a] at b; cases b
        have hinb : inb'.length ≤ letters.length := by omega
        have r8 : (List.replicate 8 (0 : Int)).length = 8 := by simp
        have G1 : GoodA { (newS key) with inb := inb', l := l, m := m, tries := tries, poi := poison } ls2 140737488355328 := ⟨r8, rfl, Nat.zero_le _, hi8, hif, hI3, hr⟩
        refine ⟨r8, by omega, fun a => ⟨r8, by omega, fun b => ⟨by omega, by omega, h2 _ ls2 rfl rfl rfl hinb hsub G1 ⟨Int.le_refl 0, Int.natCast_nonneg _⟩⟩, fun b => (hff a b).elim⟩, fun a => ⟨r8, by omega, fun b => (hff b a).elim, fun b => ⟨by omega, by omega, ?_⟩⟩⟩
        have jl := jAdd_len (List.replicate 8 0) [] events
        have jo := jAdd_ok (b := List.replicate 8 0) (ev := []) (l := events) rfl a
        have G2 : GoodA { (newS key) with inb := inb', l := l, m := m, tries := tries, poi := poison, b := (jAdd (List.replicate 8 0) [] events).1, ev := (jAdd (List.replicate 8 0) [] events).2, v := (events.length : Nat) } ls2 140737488355328 := ⟨jl.2.trans r8, jo, jl.1, hi8, hif, hI3, hr⟩
        rw [Int.zero_add, wu64 (by omega)]
        exact h2 _ ls2 rfl rfl rfl hinb hsub G2 ⟨by
         show (((jAdd (List.replicate 8 0) [] events).2.length : Nat) : Int) ≤ (events.length : Nat)
         have : (jAdd (List.replicate 8 0) [] events).2.length ≤ events.length := by unfold jAdd; simp only [List.nil_append, List.length_drop]; omega
         omega, Int.le_refl _⟩
 ·exact h.elim
end Go.V
