/- A part of the proof layer, or functions of the given program in it: contracts and their proofs. -/
import Derived.Test.YtbcmjkfdeikkhaaGreatMA71
import Derived.Test.YtbcmjkfdeikkhaaGreatN5
namespace Go.V
open Go.Proofs
set_option maxRecDepth 100000
set_option maxHeartbeats 8000000
set_option linter.unusedSimpArgs false
set_option linter.unnecessarySimpa false
set_option linter.unusedVariables false
/-! ### what an actor has at first -/
def staH (letters poison : List LetT.den) (to : List ByteArray) (events : List EvT.den) (tries : Int) (p1 p2 p3 p4 p5 p6 : Bool) (names : List ByteArray) (code : List EvT.den) : List SB :=
 [.struct [.sl p1 56 LetT letters, .sl p2 56 LetT poison, .sl p3 16 .str to, .sl p4 16 EvT events, .int .i64 tries], .struct [.sl p5 16 .str names, .sl p6 16 EvT code]]
def cntN (a b len i : Nat) (H : List SB) (N : Nat) : LoopAnn := { G := Int × Nat, I := fun g => ⟨[(2, .ptr 0 0), (3, .ptr 1 0), (5, .int .i64 g.1), (a, .int .i64 len), (b, .int .i64 g.2)], H⟩, R := fun _ g => g.2 ≤ len, μ := fun g => len - g.2 }
theorem cntN_I {a b len i H N} (g : Int × Nat) : (cntN a b len i H N).I g = ⟨[(2, .ptr 0 0), (3, .ptr 1 0), (5, .int .i64 g.1), (a, .int .i64 len), (b, .int .i64 g.2)], H⟩ := rfl
def C7 : Contract := fun args hp K => match args, hp with
 | [.agg [.sl p1 56 (.pair .str (.pair (.int .u64) (.pair (.int .i64) (.sl 8 (.int .i64))))) letters, .sl p2 56 (.pair .str (.pair (.int .u64) (.pair (.int .i64) (.sl 8 (.int .i64))))) poison, .sl p3 16 .str to, .sl p4 16 (.pair (.int .i64) (.int .i64)) events, .int .i64 tries], .agg [.sl p5 16 .str names, .sl p6 16 (.pair (.int .i64) (.int .i64)) code]], [] =>
   ∀ b : Bool, (b = true → (events : List EvT.den).length < 300 ∧ fewP names code = true) → K (.bool b) []
 | _, _ => False
theorem s7 : Sound Tryz.prog 7 C7 := by
 refine sound_of_okF ok7 (.cons s21 (callable_of_okF ok21) .nil) ?_
 intro args hp K h
 unfold C7 at h
 split at h
 ·rename_i p1 letters p2 poison p3 to p4 events tries p5 names p6 code
  refine ⟨by simp, [(1, cntN 11 12 letters.length 0 (staH letters poison to events tries p1 p2 p3 p4 p5 p6 names code) 0), (2, cntN 36 37 poison.length 0 (staH letters poison to events tries p1 p2 p3 p4 p5 p6 names code) 0), (3, cntN 61 62 to.length 0 (staH letters poison to events tries p1 p2 p3 p4 p5 p6 names code) 0)], ?_⟩
  have hmx := maxLen_val
  simp (maxSteps:=9^9) only [a7, r7, go_sem, Nat.reduceBEq, Nat.reduceAdd]
  rintro _ _ m rfl
  refine loop_intro (A := cntN 11 12 letters.length 0 (staH letters poison to events tries p1 p2 p3 p4 p5 p6 names code) 0) ((0 : Int), (0 : Nat)) ?_ (Nat.zero_le _) ?_
  ·simp (maxSteps:=9^9) only [cntN_I, staH, go_sem, Nat.reduceBEq]
   rfl
  rintro ⟨n, i⟩ (hi : i ≤ letters.length)
  simp (maxSteps:=9^9) only [cntN_I, staH, go_sem, Nat.reduceLeDiff, Nat.reduceSub, Nat.reduceBEq, Nat.reduceAdd]
  rintro c rfl
  refine sw_intro (fun hc => ?_) (fun hc => ?_) <;> simp only [decide_eq_true_eq, decide_eq_false_iff_not] at hc
  ·refine nd_intro hc ?_
   rintro _ _ m1 _ _ _ m2 _
   refine nd_intro hc ?_
   rintro _ m3 _ _ _ m4 _ _ _ m5 _ _ _ m hm
   rw [w64 (by omega)] at hm
   subst hm
   refine lpE_intro (A := cntN 11 12 letters.length 0 (staH letters poison to events tries p1 p2 p3 p4 p5 p6 names code) 0) (m5, i + 1) (by simp (maxSteps:=9^9) only [cntN_I, go_sem, Nat.reduceBEq]; rfl) (by show i + 1 ≤ letters.length; omega) (by show letters.length - (i + 1) < letters.length - i; omega)
  rintro _ _ m rfl
  refine loop_intro (A := cntN 36 37 poison.length 0 (staH letters poison to events tries p1 p2 p3 p4 p5 p6 names code) 0) (n, (0 : Nat)) ?_ (Nat.zero_le _) ?_
  ·simp (maxSteps:=9^9) only [cntN_I, staH, go_sem, Nat.reduceBEq]
   rfl
  rintro ⟨n2, i2⟩ (hi2 : i2 ≤ poison.length)
  simp (maxSteps:=9^9) only [cntN_I, staH, go_sem, Nat.reduceLeDiff, Nat.reduceSub, Nat.reduceBEq, Nat.reduceAdd]
  rintro c rfl
  refine sw_intro (fun hc2 => ?_) (fun hc2 => ?_) <;> simp only [decide_eq_true_eq, decide_eq_false_iff_not] at hc2
  ·refine nd_intro hc2 ?_
   rintro _ _ m1 _ _ _ m2 _
   refine nd_intro hc2 ?_
   rintro _ m3 _ _ _ m4 _ _ _ m5 _ _ _ m hm
   rw [w64 (by omega)] at hm
   subst hm
   refine lpE_intro (A := cntN 36 37 poison.length 0 (staH letters poison to events tries p1 p2 p3 p4 p5 p6 names code) 0) (m5, i2 + 1) (by simp (maxSteps:=9^9) only [cntN_I, go_sem, Nat.reduceBEq]; rfl) (by show i2 + 1 ≤ poison.length; omega) (by show poison.length - (i2 + 1) < poison.length - i2; omega)
  rintro _ _ m rfl
  refine loop_intro (A := cntN 61 62 to.length 0 (staH letters poison to events tries p1 p2 p3 p4 p5 p6 names code) 0) (n2, (0 : Nat)) ?_ (Nat.zero_le _) ?_
  ·simp (maxSteps:=9^9) only [cntN_I, staH, go_sem, Nat.reduceBEq]
   rfl
  rintro ⟨n3, i3⟩ (hi3 : i3 ≤ to.length)
  simp (maxSteps:=9^9) only [cntN_I, staH, C21, go_sem, Nat.reduceLeDiff, Nat.reduceSub, Nat.reduceBEq, Nat.reduceAdd]
  rintro c rfl
  refine sw_intro (fun hc3 => ?_) (fun hc3 => ?_) <;> simp only [decide_eq_true_eq, decide_eq_false_iff_not] at hc3
  ·refine nd_intro hc3 ?_
   rintro _ m1 _ _ _ m2 _ _ _ m5 _ _ _ m hm
   rw [w64 (by omega)] at hm
   subst hm
   refine lpE_intro (A := cntN 61 62 to.length 0 (staH letters poison to events tries p1 p2 p3 p4 p5 p6 names code) 0) (m5, i3 + 1) (by simp (maxSteps:=9^9) only [cntN_I, go_sem, Nat.reduceBEq]; rfl) (by show i3 + 1 ≤ to.length; omega) (by show to.length - (i3 + 1) < to.length - i3; omega)
  rintro c _
  refine sw_intro (fun _ => ?_) (fun _ => h false (fun h9 => by cases h9))
  rintro _ _ m rfl c rfl
  refine sw_intro (fun h9 => h _ (fun h8 => ⟨by have := of_decide_eq_true h9; omega, h8⟩)) (fun _ => h false (fun h9 => by cases h9))
 ·exact h.elim
end Go.V
namespace Go.V
open Go.Proofs
set_option maxRecDepth 100000
set_option maxHeartbeats 8000000
set_option linter.unusedSimpArgs false
set_option linter.unnecessarySimpa false
set_option linter.unusedVariables false
/-! ### letters and events, read -/
/-! ### journals, read -/
end Go.V
namespace Go.V
open Go.Proofs
set_option maxRecDepth 100000
set_option maxHeartbeats 8000000
set_option linter.unusedSimpArgs false
set_option linter.unnecessarySimpa false
set_option linter.unusedVariables false
/-! ### what was laid is read -/
end Go.V
namespace Go.V
open Go.Proofs
set_option maxRecDepth 100000
set_option maxHeartbeats 8000000
set_option linter.unusedSimpArgs false
set_option linter.unnecessarySimpa false
set_option linter.unusedVariables false
/-! ### outcomes, alike -/
instance : DecidableEq TimT.den := inferInstanceAs (DecidableEq (ByteArray × Bool × Int × Int × Int))
theorem tim_eq {x y : TimT.den} : (decide (x.1 = y.1) && ((x.2.1 == y.2.1) && (decide (x.2.2.1 = y.2.2.1) && (decide (x.2.2.2.1 = y.2.2.2.1) && (decide (x.2.2.2.2 = y.2.2.2.2) && true))))) = decide (x = y) := by
 obtain ⟨a, b, c, d, e⟩ := x
 obtain ⟨a', b', c', d', e'⟩ := y
 rw [Bool.eq_iff_iff]
 simp only [Bool.and_eq_true, decide_eq_true_eq, beq_iff_eq, and_true, Prod.mk.injEq]
theorem take_both {t : Ty} {l l' : List t.den} {i : Nat} (e : l.take i = l'.take i) (h : l.length ≤ i) (h2 : l.length = l'.length) : l = l' := by
 rw [List.take_of_length_le h, List.take_of_length_le (by omega)] at e
 exact e
def C42 : Contract := fun args hp K => match args, hp with
 | [x, y], [] => onL TimT 48 x fun l => onL TimT 48 y fun l' => K (.bool (decide (l = l'))) []
 | _, _ => False
def L42 (x y : SV) (l l' : List TimT.den) : LoopAnn := { G := Nat, I := fun i => ⟨[(0, x), (1, y), (12, .int .i64 l.length), (13, .int .i64 i)], []⟩, R := fun _ i => i ≤ l.length ∧ l.take i = l'.take i, μ := fun i => l.length - i }
theorem L42_I {x y l l'} (i : Nat) : (L42 x y l l').I i = ⟨[(0, x), (1, y), (12, .int .i64 l.length), (13, .int .i64 i)], []⟩ := rfl
theorem s42 : Sound Tryz.prog 42 C42 := by
 refine sound_of_okF ok42 .nil ?_
 intro args hp K h
 unfold C42 at h
 split at h
 ·rename_i x y
  have hmx := maxLen_val
  rcases h with ⟨rfl, ⟨rfl, h⟩ | ⟨q, l', rfl, h⟩⟩ | ⟨p, l, rfl, ⟨rfl, h⟩ | ⟨q, l', rfl, h⟩⟩
  ·refine ⟨by simp, [(1, L42 .nils .nils ([] : List TimT.den) ([] : List TimT.den))], ?_⟩
   simp (maxSteps:=9^9) only [a42, r42, go_sem, Nat.reduceBEq, Nat.reduceAdd]
   have hne : ¬ (([] : List TimT.den) = ([] : List TimT.den)) → K (.bool false) [] := fun hh => by rw [decide_eq_false hh] at h; exact h
   have hle : ([] : List TimT.den) = ([] : List TimT.den) → K (.bool true) [] := fun hh => by rw [decide_eq_true hh] at h; exact h
   have hlen : ([] : List TimT.den).length = ([] : List TimT.den).length := rfl
   refine loop_intro (A := L42 .nils .nils ([] : List TimT.den) ([] : List TimT.den)) (0 : Nat) ?_ ⟨Nat.zero_le _, rfl⟩ ?_
   ·simp (maxSteps:=9^9) only [L42_I, go_sem, Nat.reduceBEq]
    rfl
   intro (i : Nat) (hi : i ≤ ([] : List TimT.den).length ∧ ([] : List TimT.den).take i = ([] : List TimT.den).take i)
   simp (maxSteps:=9^9) only [L42_I, go_sem, Nat.reduceBEq]
   rintro c rfl
   refine sw_intro (fun hd => ?_) (fun hd => ?_) <;> simp only [decide_eq_true_eq, decide_eq_false_iff_not] at hd
   ·exact absurd hd (by omega)
   refine hle ?_
   have e := hi.2
   exact take_both (t := TimT) e (by first | omega | (simp only [List.length_nil] at hd ⊢; omega)) hlen
  ·refine ⟨by simp, [(1, L42 .nils (.sl q 48 TimT l') ([] : List TimT.den) (l' : List TimT.den))], ?_⟩
   simp (maxSteps:=9^9) only [a42, r42, go_sem, Nat.reduceBEq, Nat.reduceAdd]
   have hne : ¬ (([] : List TimT.den) = (l' : List TimT.den)) → K (.bool false) [] := fun hh => by rw [decide_eq_false hh] at h; exact h
   have hle : ([] : List TimT.den) = (l' : List TimT.den) → K (.bool true) [] := fun hh => by rw [decide_eq_true hh] at h; exact h
   rintro _ _ m rfl
   rintro c rfl
   refine sw_intro (fun hc => ?_) (fun hc => ?_) <;> simp only [Bool.not_eq_true', Bool.not_eq_false', decide_eq_true_eq, decide_eq_false_iff_not] at hc
   ·exact hne (fun hh => hc (by have := congrArg List.length hh; first | omega | (simp only [List.length_nil] at this ⊢; omega)))
   have hlen : ([] : List TimT.den).length = (l' : List TimT.den).length := by first | omega | (simp only [List.length_nil] at hc ⊢; omega)
   refine loop_intro (A := L42 .nils (.sl q 48 TimT l') ([] : List TimT.den) (l' : List TimT.den)) (0 : Nat) ?_ ⟨Nat.zero_le _, rfl⟩ ?_
   ·simp (maxSteps:=9^9) only [L42_I, go_sem, Nat.reduceBEq]
    rfl
   intro (i : Nat) (hi : i ≤ ([] : List TimT.den).length ∧ ([] : List TimT.den).take i = (l' : List TimT.den).take i)
   simp (maxSteps:=9^9) only [L42_I, go_sem, Nat.reduceBEq]
   rintro c rfl
   refine sw_intro (fun hd => ?_) (fun hd => ?_) <;> simp only [decide_eq_true_eq, decide_eq_false_iff_not] at hd
   ·exact absurd hd (by omega)
   refine hle ?_
   have e := hi.2
   exact take_both (t := TimT) e (by first | omega | (simp only [List.length_nil] at hd ⊢; omega)) hlen
  ·refine ⟨by simp, [(1, L42 (.sl p 48 TimT l) .nils (l : List TimT.den) ([] : List TimT.den))], ?_⟩
   simp (maxSteps:=9^9) only [a42, r42, go_sem, Nat.reduceBEq, Nat.reduceAdd]
   have hne : ¬ ((l : List TimT.den) = ([] : List TimT.den)) → K (.bool false) [] := fun hh => by rw [decide_eq_false hh] at h; exact h
   have hle : (l : List TimT.den) = ([] : List TimT.den) → K (.bool true) [] := fun hh => by rw [decide_eq_true hh] at h; exact h
   rintro _ _ m rfl
   rintro c rfl
   refine sw_intro (fun hc => ?_) (fun hc => ?_) <;> simp only [Bool.not_eq_true', Bool.not_eq_false', decide_eq_true_eq, decide_eq_false_iff_not] at hc
   ·exact hne (fun hh => hc (by have := congrArg List.length hh; first | omega | (simp only [List.length_nil] at this ⊢; omega)))
   have hlen : (l : List TimT.den).length = ([] : List TimT.den).length := by first | omega | (simp only [List.length_nil] at hc ⊢; omega)
   rintro _ _ m rfl
   refine loop_intro (A := L42 (.sl p 48 TimT l) .nils (l : List TimT.den) ([] : List TimT.den)) (0 : Nat) ?_ ⟨Nat.zero_le _, rfl⟩ ?_
   ·simp (maxSteps:=9^9) only [L42_I, go_sem, Nat.reduceBEq]
    rfl
   intro (i : Nat) (hi : i ≤ (l : List TimT.den).length ∧ (l : List TimT.den).take i = ([] : List TimT.den).take i)
   simp (maxSteps:=9^9) only [L42_I, go_sem, Nat.reduceLeDiff, Nat.reduceSub, Nat.reduceBEq, Nat.reduceAdd]
   rintro c rfl
   refine sw_intro (fun hd => ?_) (fun hd => ?_) <;> simp only [decide_eq_true_eq, decide_eq_false_iff_not] at hd
   ·exact absurd hd (by simp only [List.length_nil] at hlen; omega)
   refine hle ?_
   have e := hi.2
   exact take_both (t := TimT) e (by first | omega | (simp only [List.length_nil] at hd ⊢; omega)) hlen
  ·refine ⟨by simp, [(1, L42 (.sl p 48 TimT l) (.sl q 48 TimT l') (l : List TimT.den) (l' : List TimT.den))], ?_⟩
   simp (maxSteps:=9^9) only [a42, r42, go_sem, Nat.reduceBEq, Nat.reduceAdd]
   have hne : ¬ ((l : List TimT.den) = (l' : List TimT.den)) → K (.bool false) [] := fun hh => by rw [decide_eq_false hh] at h; exact h
   have hle : (l : List TimT.den) = (l' : List TimT.den) → K (.bool true) [] := fun hh => by rw [decide_eq_true hh] at h; exact h
   rintro _ _ m rfl
   rintro _ _ m rfl
   rintro c rfl
   refine sw_intro (fun hc => ?_) (fun hc => ?_) <;> simp only [Bool.not_eq_true', Bool.not_eq_false', decide_eq_true_eq, decide_eq_false_iff_not] at hc
   ·exact hne (fun hh => hc (by have := congrArg List.length hh; first | omega | (simp only [List.length_nil] at this ⊢; omega)))
   have hlen : (l : List TimT.den).length = (l' : List TimT.den).length := by first | omega | (simp only [List.length_nil] at hc ⊢; omega)
   rintro _ _ m rfl
   refine loop_intro (A := L42 (.sl p 48 TimT l) (.sl q 48 TimT l') (l : List TimT.den) (l' : List TimT.den)) (0 : Nat) ?_ ⟨Nat.zero_le _, rfl⟩ ?_
   ·simp (maxSteps:=9^9) only [L42_I, go_sem, Nat.reduceBEq]
    rfl
   intro (i : Nat) (hi : i ≤ (l : List TimT.den).length ∧ (l : List TimT.den).take i = (l' : List TimT.den).take i)
   simp (maxSteps:=9^9) only [L42_I, go_sem, Nat.reduceLeDiff, Nat.reduceSub, Nat.reduceBEq, Nat.reduceAdd]
   rintro c rfl
   refine sw_intro (fun hd => ?_) (fun hd => ?_) <;> simp only [decide_eq_true_eq, decide_eq_false_iff_not] at hd
   ·refine nd_intro hd (nd_intro (by omega) ?_)
    rw [tim_eq]
    rintro c rfl
    refine sw_intro (fun he => ?_) (fun he => ?_) <;> simp only [Bool.not_eq_true', Bool.not_eq_false', decide_eq_true_eq, decide_eq_false_iff_not] at he
    ·exact hne (fun hh => he (by rw [hh]))
    rintro _ _ m hm
    rw [w64 (by omega)] at hm
    subst hm
    refine lpE_intro (A := L42 (.sl p 48 TimT l) (.sl q 48 TimT l') (l : List TimT.den) (l' : List TimT.den)) (i + 1 : Nat) (by simp (maxSteps:=9^9) only [L42_I, go_sem, Nat.reduceBEq]; rfl) ⟨hd, ?_⟩ (by show (l : List TimT.den).length - (i + 1) < (l : List TimT.den).length - i; omega)
    have e1 := take_elt (t := TimT) hd
    have e2 := take_elt (t := TimT) (l := l') (i := i) (by omega)
    show (l : List TimT.den).take (i + 1) = (l' : List TimT.den).take (i + 1)
    rw [← e1, ← e2, hi.2, he]
   refine hle ?_
   have e := hi.2
   exact take_both (t := TimT) e (by first | omega | (simp only [List.length_nil] at hd ⊢; omega)) hlen
 ·exact h.elim
def C43 : Contract := fun args hp K => match args, hp with
 | [x], [] => onL TimT 48 x fun l => K (.own 0) [.row true 48 TimT l]
 | _, _ => False
def L43 (x : SV) (l : List TimT.den) : LoopAnn := { G := Nat, I := fun i => ⟨[(0, x), (3, .own 0), (6, .int .i64 l.length), (7, .int .i64 i)], [.row true 48 TimT (l.take i)]⟩, R := fun _ i => i ≤ l.length, μ := fun i => l.length - i }
theorem L43_I {x l} (i : Nat) : (L43 x l).I i = ⟨[(0, x), (3, .own 0), (6, .int .i64 l.length), (7, .int .i64 i)], [.row true 48 TimT (l.take i)]⟩ := rfl
theorem s43 : Sound Tryz.prog 43 C43 := by
 refine sound_of_okF ok43 .nil ?_
 intro args hp K h
 unfold C43 at h
 split at h
 ·rename_i x
  have hmx := maxLen_val
  rcases h with ⟨rfl, h⟩ | ⟨q, l, rfl, h⟩
  ·refine ⟨by simp, [(1, L43 .nils [])], ?_⟩
   simp (maxSteps:=9^9) only [a43, r43, go_sem, Nat.reduceBEq]
   refine loop_intro (A := L43 .nils []) (0 : Nat) ?_ (Nat.zero_le _) ?_
   ·simp (maxSteps:=9^9) only [L43_I, go_sem, Nat.reduceBEq]
    rfl
   intro (i : Nat) (hi : i ≤ ([] : List TimT.den).length)
   simp (maxSteps:=9^9) only [L43_I, go_sem, Nat.reduceBEq]
   rintro c rfl
   refine sw_intro (fun hd => ?_) (fun hd => ?_) <;> simp only [decide_eq_true_eq, decide_eq_false_iff_not] at hd
   ·exact absurd hd (by omega)
   rw [List.take_nil]
   exact h
  ·refine ⟨by simp, [(1, L43 (.sl q 48 TimT l) l)], ?_⟩
   simp (maxSteps:=9^9) only [a43, r43, go_sem, Nat.reduceBEq]
   rintro _ _ m rfl
   refine loop_intro (A := L43 (.sl q 48 TimT l) l) (0 : Nat) ?_ (Nat.zero_le _) ?_
   ·simp (maxSteps:=9^9) only [L43_I, go_sem, Nat.reduceBEq]
    rfl
   intro (i : Nat) (hi : i ≤ (l : List TimT.den).length)
   simp (maxSteps:=9^9) only [L43_I, go_sem, Nat.reduceLeDiff, Nat.reduceSub, Nat.reduceMul, Nat.reduceBEq, Nat.reduceAdd]
   rintro c rfl
   refine sw_intro (fun hd => ?_) (fun hd => ?_) <;> simp only [decide_eq_true_eq, decide_eq_false_iff_not] at hd
   ·refine nd_intro hd ⟨fun _ => by rw [List.length_take]; omega, fun _ => ?_⟩
    rintro _ _ m hm
    rw [w64 (by omega)] at hm
    subst hm
    refine lpE_intro (A := L43 (.sl q 48 TimT l) l) (i + 1 : Nat) ?_ hd (by show (l : List TimT.den).length - (i + 1) < (l : List TimT.den).length - i; omega)
    have e1 := take_elt (t := TimT) hd
    simp (maxSteps:=9^9) only [L43_I, ← e1, go_sem, Nat.reduceBEq]
    rfl
   rw [List.take_of_length_le (by omega)]
   exact h
 ·exact h.elim
def C14 : Contract := fun args hp K => match args, hp with
 | [.agg [.bool d, .bool p, .int .i64 e, .int .i64 n, x]], [] => onL TimT 48 x fun l => K (.agg [.bool d, .bool p, .int .i64 e, .int .i64 n, .sl true 48 TimT l]) []
 | _, _ => False
theorem s14 : Sound Tryz.prog 14 C14 := by
 refine sound_of_okF ok14 (.cons s43 (callable_of_okF ok43) .nil) ?_
 intro args hp K h
 unfold C14 at h
 split at h
 ·rename_i d p e n x
  rcases h with ⟨rfl, h⟩ | ⟨q, l, rfl, h⟩
  ·refine ⟨by simp, [], ?_⟩
   simp (maxSteps:=9^9) only [a14, r14, C43, go_sem, Nat.reduceLeDiff, Nat.reduceSub, Nat.reduceLT, Nat.reduceBEq, Nat.reduceAdd]
   exact h
  ·refine ⟨by simp, [], ?_⟩
   simp (maxSteps:=9^9) only [a14, r14, C43, go_sem, Nat.reduceLeDiff, Nat.reduceSub, Nat.reduceLT, Nat.reduceBEq, Nat.reduceAdd]
   exact h
 ·exact h.elim
def C13 : Contract := fun args hp K => match args, hp with
 | [.agg [.bool d, .bool p, .int .i64 e, .int .i64 n, x], .agg [.bool d', .bool p', .int .i64 e', .int .i64 n', y]], [] => onL TimT 48 x fun l => onL TimT 48 y fun l' => K (.bool ((d == d') && ((p == p') && (decide (e = e') && (decide (n = n') && decide (l = l')))))) []
 | _, _ => False
theorem s13 : Sound Tryz.prog 13 C13 := by
 refine sound_of_okF ok13 (.cons s42 (callable_of_okF ok42) .nil) ?_
 intro args hp K h
 unfold C13 at h
 split at h
 ·rename_i d p e n x d' p' e' n' y
  rcases h with ⟨rfl, ⟨rfl, h⟩ | ⟨q, l', rfl, h⟩⟩ | ⟨p, l, rfl, ⟨rfl, h⟩ | ⟨q, l', rfl, h⟩⟩
  all_goals
   refine ⟨by simp, [], ?_⟩
   simp (maxSteps:=9^9) only [a13, r13, C42, go_sem, Nat.reduceLeDiff, Nat.reduceSub, Nat.reduceBEq, Nat.reduceAdd]
   rintro c rfl
   refine sw_intro (fun h1 => ?_) (fun h1 => ?_)
   case refine_2 => rw [h1] at h; exact h
   rw [h1, Bool.true_and] at h
   rintro c rfl
   refine sw_intro (fun h2 => ?_) (fun h2 => ?_)
   case refine_2 => rw [h2] at h; exact h
   rw [h2, Bool.true_and] at h
   rintro c rfl
   refine sw_intro (fun h3 => ?_) (fun h3 => ?_)
   case refine_2 => rw [h3] at h; exact h
   rw [h3, Bool.true_and] at h
   rintro c rfl
   refine sw_intro (fun h4 => ?_) (fun h4 => ?_)
   case refine_2 => rw [h4] at h; exact h
   rw [h4, Bool.true_and] at h
   exact h
 ·exact h.elim
end Go.V
namespace Go.V
open Go.Proofs
set_option maxRecDepth 100000
set_option maxHeartbeats 8000000
set_option linter.unusedSimpArgs false
set_option linter.unnecessarySimpa false
set_option linter.unusedVariables false
/-! ### behind a turn that is done -/
theorem sendS_inv {o : ByteArray} {p q : List OutT.den × List LastT.den} {x : SentT.den} {ls : List LastT.den} {B : Int} (h : Inv o p.1 ls B) (hr : Rel p.2 ls) (hB : B ≤ 18446744073709550000) (hB0 : 0 ≤ B) (hs : sendS o p x = some q) :
  ∃ ls2, Inv o q.1 ls2 (B + 1) ∧ Rel q.2 ls2 := by
 unfold sendS at hs
 split at hs
 ·rename_i hc
  cases hs
  obtain ⟨hk, hb⟩ := hc
  have hlk := hr.2 x.1
  have e : sendW p.2 x.1 = IntKind.u64.wrap ((thereL ls x.1).getD (0 : Int) + 1) := by unfold sendW; rw [hlk]
  have hl : p.1.length < 32 := by
   rcases Nat.lt_or_ge p.1.length 32 with h9 | h9
   ·exact h9
   ·exact absurd (.inl h9) hb
  have hm : (setF ls x.1 (sendW p.2 x.1)).length ≤ 64 := by
   rw [setF_eq, setR_length]
   split
   ·rename_i hn
    rcases Nat.lt_or_ge ls.length 64 with h9 | h9
    ·omega
    ·exact absurd (.inr ⟨by rw [hlk, thereL_eq]; exact hn, by rw [hr.1]; exact h9⟩) hb
   ·exact h.m64
  exact ⟨_, h.send (by omega) hB0 hk (xs := [x.2.2]) (by simp) hl hm x.2.1 e, hr.set x.1 _⟩
 ·cases hs
theorem sendO_inv {o : ByteArray} : ∀ (l : List SentT.den) (p q : List OutT.den × List LastT.den) (ls : List LastT.den) (B : Int), Inv o p.1 ls B → Rel p.2 ls → B + l.length ≤ 18446744073709550000 → 0 ≤ B → sendO o p l = some q → ∃ ls2, Inv o q.1 ls2 (B + l.length) ∧ Rel q.2 ls2
 | [], p, q, ls, B, h, hr, hB, hB0, hs => by
  cases hs
  exact ⟨ls, h.mono (by simp), hr⟩
 | x :: l, p, q, ls, B, h, hr, hB, hB0, hs => by
  simp only [sendO] at hs
  simp only [List.length_cons] at hB
  cases h1 : sendS o p x with
  | none => rw [h1] at hs; cases hs
  | some p1 =>
   rw [h1] at hs
   obtain ⟨ls1, i1, r1⟩ := sendS_inv h hr (by omega) hB0 h1
   obtain ⟨ls2, i2, r2⟩ := sendO_inv l p1 q ls1 (B + 1) i1 r1 (by omega) (by omega) hs
   exact ⟨ls2, i2.mono (by simp only [List.length_cons]; omega), r2⟩
def doneS (S : ActS) (r : List LetT.den) (ev : List EvT.den) (p : List OutT.den × List LastT.den) : ActS := { S with inb := r, tries := 0, l := p.1, m := p.2, b := (jAdd S.b S.ev ev).1, ev := (jAdd S.b S.ev ev).2, v := IntKind.u64.wrap (S.v + (ev.length : Nat)) }
theorem done_good {S : ActS} {ls : List LastT.den} {B : Int} (h : GoodA S ls B) (hB : 0 ≤ B ∧ B ≤ 18446744073709540000) {f : ByteArray} {s k : Int} {xs : List Int} {r : List LetT.den} (hr : S.inb = (f, s, k, xs) :: r) {ev : List EvT.den} (hev : ev.all okEv = true) {sent : List SentT.den} (h5 : sent.length ≤ 500)
  {p : List OutT.den × List LastT.den} (hs : sendO S.o (S.l, ls) sent = some p) : ∃ ls2, GoodA (doneS S r ev p) ls2 (B + 500) := by
 obtain ⟨ls2, i2, r2⟩ := sendO_inv sent (S.l, ls) p ls B h.inv (Rel.self h.inv.keys) (by omega) hB.1 hs
 have jl := jAdd_len S.b S.ev ev
 have hin := h.in8
 have hinf := h.inf
 rw [hr] at hin hinf
 simp only [List.length_cons] at hin
 simp only [List.all_cons, Bool.and_eq_true] at hinf
 refine ⟨ls2, jl.2.trans h.b8, jAdd_ok (b := S.b) h.ev hev, jl.1, ?_, hinf.2, i2.mono (by omega), r2⟩
 show r.length ≤ 8
 omega
end Go.V
namespace Go.V
open Go.Proofs
set_option maxRecDepth 100000
set_option maxHeartbeats 8000000
set_option linter.unusedSimpArgs false
set_option linter.unnecessarySimpa false
set_option linter.unusedVariables false
/-! ### what is alike is told so -/
def cntS (x y : SV) (n : Nat) : LoopAnn := cntA (fun i => ⟨[(0, x), (1, y), (12, .int .i64 n), (13, .int .i64 i)], []⟩) n
theorem cntS_I {x y n} (i : Nat) : (cntA (fun i => ⟨[(0, x), (1, y), (12, .int .i64 (n : Nat)), (13, .int .i64 i)], []⟩) n).I i = ⟨[(0, x), (1, y), (12, .int .i64 n), (13, .int .i64 i)], []⟩ := rfl
def C130 : Contract := fun args hp K => match args, hp with
 | [.sl p 8 (.int .i64) l, .sl q 8 (.int .i64) l'], [] => l = l' ∧ K (.bool true) []
 | _, _ => False
theorem s130 : Sound Tryz.prog 130 C130 := by
 refine sound_of_okF ok130 .nil ?_
 intro args hp K h
 unfold C130 at h
 split at h
 ·rename_i p l q l'
  obtain ⟨rfl, h⟩ := h
  refine ⟨by simp, [(1, cntS (.sl p 8 (.int .i64) l) (.sl q 8 (.int .i64) l) l.length)], ?_⟩
  have hmx := maxLen_val
  simp (maxSteps:=9^9) only [a130, r130, go_sem, Nat.reduceBEq, Nat.reduceAdd]
  rintro _ _ m rfl _ _ _ rfl c rfl
  refine sw_intro (fun hc => absurd hc (by simp)) (fun _ => ?_)
  rintro _ _ m rfl
  refine loop_intro (A := cntS (.sl p 8 (.int .i64) l) (.sl q 8 (.int .i64) l) l.length) (0 : Nat) ?_ (Nat.zero_le _) ?_
  ·simp (maxSteps:=9^9) only [cntS, cntS_I, go_sem, Nat.reduceBEq]
   rfl
  intro (i : Nat) (hi : i ≤ l.length)
  simp (maxSteps:=9^9) only [cntS, cntS_I, go_sem, Nat.reduceBEq]
  rintro c rfl
  refine sw_intro (fun hd => ?_) (fun hd => ?_) <;> simp only [decide_eq_true_eq, decide_eq_false_iff_not] at hd
  ·refine nd_intro hd ?_
   rintro _ _ m hm
   rw [w64 (by omega)] at hm
   subst hm
   exact cntA_next hd (by simp (maxSteps:=9^9) only [go_sem, Nat.reduceBEq]; rfl)
  ·exact h
 ·exact h.elim
def C103 : Contract := fun args hp K => match args, hp with
 | [.agg [.str f, .int .u64 s, .int .i64 k, .sl p 8 (.int .i64) xs], .agg [.str f', .int .u64 s', .int .i64 k', .sl q 8 (.int .i64) ys]], [] => (f = f' ∧ s = s' ∧ k = k' ∧ xs = ys) ∧ K (.bool true) []
 | _, _ => False
theorem s103 : Sound Tryz.prog 103 C103 := by
 refine sound_of_okF ok103 (.cons s130 (callable_of_okF ok130) .nil) ?_
 intro args hp K h
 unfold C103 at h
 split at h
 ·rename_i f s k p xs f' s' k' q ys
  obtain ⟨⟨rfl, rfl, rfl, rfl⟩, h⟩ := h
  refine ⟨by simp, [], ?_⟩
  simp (maxSteps:=9^9) only [a103, r103, C130, go_sem, Nat.reduceLeDiff, Nat.reduceSub, Nat.reduceBEq, Nat.reduceAdd]
  exact h
 ·exact h.elim
def C45 : Contract := fun args hp K => match args, hp with
 | [.sl p 56 (.pair .str (.pair (.int .u64) (.pair (.int .i64) (.sl 8 (.int .i64))))) l, .sl q 56 (.pair .str (.pair (.int .u64) (.pair (.int .i64) (.sl 8 (.int .i64))))) l'], [] => l = l' ∧ K (.bool true) []
 | _, _ => False
theorem s45 : Sound Tryz.prog 45 C45 := by
 refine sound_of_okF ok45 (.cons s103 (callable_of_okF ok103) .nil) ?_
 intro args hp K h
 unfold C45 at h
 split at h
 ·rename_i p l q l'
  obtain ⟨rfl, h⟩ := h
  refine ⟨by simp, [(1, cntS (.sl p 56 LetT l) (.sl q 56 LetT l) (l : List LetT.den).length)], ?_⟩
  have hmx := maxLen_val
  simp (maxSteps:=9^9) only [a45, r45, go_sem, Nat.reduceBEq, Nat.reduceAdd]
  rintro _ _ m rfl _ _ _ rfl c rfl
  refine sw_intro (fun hc => absurd hc (by simp)) (fun _ => ?_)
  rintro _ _ m rfl
  refine loop_intro (A := cntS (.sl p 56 LetT l) (.sl q 56 LetT l) (l : List LetT.den).length) (0 : Nat) ?_ (Nat.zero_le _) ?_
  ·simp (maxSteps:=9^9) only [cntS, cntS_I, go_sem, Nat.reduceBEq]
   rfl
  intro (i : Nat) (hi : i ≤ (l : List LetT.den).length)
  simp (maxSteps:=9^9) only [cntS, cntS_I, C103, go_sem, Nat.reduceLeDiff, Nat.reduceSub, Nat.reduceBEq, Nat.reduceAdd]
  rintro c rfl
  refine sw_intro (fun hd => ?_) (fun hd => ?_) <;> simp only [decide_eq_true_eq, decide_eq_false_iff_not] at hd
  ·refine nd_intro hd ?_
   rintro _ _ m hm
   rw [w64 (by omega)] at hm
   subst hm
   exact cntA_next hd (by simp (maxSteps:=9^9) only [go_sem, Nat.reduceBEq]; rfl)
  ·exact h
 ·exact h.elim
def C51 : Contract := fun args hp K => match args, hp with
 | [.sl p 72 (.pair .str (.pair .str (.pair (.int .u64) (.pair (.int .i64) (.sl 8 (.int .i64)))))) l, .sl q 72 (.pair .str (.pair .str (.pair (.int .u64) (.pair (.int .i64) (.sl 8 (.int .i64)))))) l'], [] => l = l' ∧ K (.bool true) []
 | _, _ => False
theorem s51 : Sound Tryz.prog 51 C51 := by
 refine sound_of_okF ok51 (.cons s103 (callable_of_okF ok103) .nil) ?_
 intro args hp K h
 unfold C51 at h
 split at h
 ·rename_i p l q l'
  obtain ⟨rfl, h⟩ := h
  refine ⟨by simp, [(1, cntS (.sl p 72 OutT l) (.sl q 72 OutT l) (l : List OutT.den).length)], ?_⟩
  have hmx := maxLen_val
  simp (maxSteps:=9^9) only [a51, r51, go_sem, Nat.reduceBEq, Nat.reduceAdd]
  rintro _ _ m rfl _ _ _ rfl c rfl
  refine sw_intro (fun hc => absurd hc (by simp)) (fun _ => ?_)
  rintro _ _ m rfl
  refine loop_intro (A := cntS (.sl p 72 OutT l) (.sl q 72 OutT l) (l : List OutT.den).length) (0 : Nat) ?_ (Nat.zero_le _) ?_
  ·simp (maxSteps:=9^9) only [cntS, cntS_I, go_sem, Nat.reduceBEq]
   rfl
  intro (i : Nat) (hi : i ≤ (l : List OutT.den).length)
  simp (maxSteps:=9^9) only [cntS, cntS_I, C103, go_sem, Nat.reduceLeDiff, Nat.reduceSub, Nat.reduceBEq, Nat.reduceAdd]
  rintro c rfl
  refine sw_intro (fun hd => ?_) (fun hd => ?_) <;> simp only [decide_eq_true_eq, decide_eq_false_iff_not] at hd
  ·refine nd_intro hd ?_
   rintro _ _ m hm
   rw [w64 (by omega)] at hm
   subst hm
   exact cntA_next hd (by simp (maxSteps:=9^9) only [go_sem, Nat.reduceBEq]; rfl)
  ·exact h
 ·exact h.elim
def C46 : Contract := fun args hp K => match args with
 | [.ptr 0 0] => onIn hp fun l => l.length ≤ 1000 ∧ K (.own 2) (hp ++ [.row true 56 LetT l])
 | _ => False
theorem s46 : Sound Tryz.prog 46 C46 := by
 refine sound_of_okF ok46 (.cons s92 (callable_of_okF ok92) .nil) ?_
 intro args hp K h
 unfold C46 at h
 split at h
 ·obtain ⟨l, rfl, h1, h⟩ := h
  refine ⟨by simp, [], ?_⟩
  unfold inH at h ⊢
  simp (maxSteps:=9^9) only [a46, r46, C92, go_sem, Nat.reduceSub, Nat.reduceLT, Nat.reduceBEq, Nat.reduceAdd]
  exact ⟨rfl, h1, h⟩
 ·exact h.elim
def C53 : Contract := fun args hp K => match args with
 | [.ptr 0 0] => onJ hp fun b ev v => K (.agg [.arr 8 (.int .i64) b]) hp
 | _ => False
theorem s53 : Sound Tryz.prog 53 C53 := by
 refine sound_of_okF ok53 .nil ?_
 intro args hp K h
 unfold C53 at h
 split at h
 ·obtain ⟨b, ev, v, rfl, h⟩ := h
  refine ⟨by simp, [], ?_⟩
  unfold jH at h ⊢
  simp (maxSteps:=9^9) only [a53, r53, go_sem, Nat.reduceSub, Nat.reduceMul, Nat.reduceBEq, Nat.reduceAdd]
  exact h
 ·exact h.elim
def C40 : Contract := fun args hp K => match args with
 | [.ptr 0 0] => onJ hp fun b ev v => b.length = 8 ∧ ev.all okEv = true ∧ ev.length ≤ 1000 ∧ K (.agg [.arr 8 (.int .i64) (appE b ev)]) hp
 | _ => False
def L40 (b : List Int) (ev : List EvT.den) (v : Int) : LoopAnn := cntA (fun i => ⟨[(0, .ptr 0 0), (2, .ptr 2 0), (3, .ptr 3 0), (13, .int .i64 ev.length), (14, .int .i64 i)], jH false b ev v ++ [.struct [.arr 8 (.int .i64) z8], .struct [.arr 8 (.int .i64) (appE b (ev.take i))]]⟩) ev.length
theorem s40 : Sound Tryz.prog 40 C40 := by
 refine sound_of_okF ok40 .nil ?_
 intro args hp K h
 unfold C40 at h
 split at h
 ·obtain ⟨b, ev, v, rfl, h8, hok, h1, h⟩ := h
  refine ⟨by simp, [(1, L40 b ev v)], ?_⟩
  have hmx := maxLen_val
  unfold jH at h ⊢
  simp (maxSteps:=9^9) only [a40, r40, go_sem, Nat.reduceSub, Nat.reduceMul, Nat.reduceBEq, Nat.reduceAdd]
  rintro _ _ m rfl
  refine loop_intro (A := L40 b ev v) (0 : Nat) ?_ (Nat.zero_le _) ?_
  ·simp (maxSteps:=9^9) only [L40, cntA_I, jH, go_sem, Nat.reduceBEq, Nat.reduceAdd]
   rfl
  ·intro (i : Nat) (hi : i ≤ ev.length)
   simp (maxSteps:=9^9) only [L40, cntA_I, jH, go_sem, Nat.reduceSub, Nat.reduceMul, Nat.reduceBEq, Nat.reduceAdd]
   rintro c rfl
   refine sw_intro (fun hc => ?_) (fun hc => ?_) <;> simp only [decide_eq_true_eq, decide_eq_false_iff_not] at hc
   ·have hok : okEv (elt EvT ev i) = true := List.all_eq_true.1 hok _ (List.mem_of_getElem? (elt_get hc))
    simp only [okEv, Bool.and_eq_true, decide_eq_true_eq] at hok
    refine nd_intro hc (nd_intro hok (nd_intro (toNat_lt8 hok) ?_))
    rintro _ _ m hm
    rw [w64 (by omega)] at hm
    subst hm
    rw [← appE_snoc, take_elt (t := EvT) hc]
    exact cntA_next hc (by simp (maxSteps:=9^9) only [go_sem, Nat.reduceBEq, Nat.reduceAdd]; rfl)
   ·rw [List.take_of_length_le (by omega)]
    exact h
 ·exact h.elim
end Go.V
namespace Go.V
open Go.Proofs
set_option maxRecDepth 100000
set_option maxHeartbeats 8000000
set_option linter.unusedSimpArgs false
set_option linter.unnecessarySimpa false
set_option linter.unusedVariables false
/-! ### the document's machine -/
def rcH (mv : Bool) (M : Mc) : List SB := [.struct [.sl true 16 .str M.names, .sl true 16 EvT M.code, .str M.f, .int .u64 M.s, .int .i64 M.k, .sl true 8 (.int .i64) M.args, .int .i64 M.now, .int .i64 M.pc, .own 1, .arr 8 (.int .i64) M.st, .own 2, .own 3, .own 4, .int .i64 M.steps],
 .row mv 8 (.int .i64) M.stack, .row mv 16 EvT M.ev, .row mv 32 SentT M.sent, .row mv 48 TimT M.tim]
def onR (hp : List SB) (K : Mc → Prop) : Prop := ∃ M, M.failed = 0 ∧ M.done = false ∧ hp = rcH false M ∧ K M
@[go_sem] theorem onR_eq {names code f s k args now pc stack st ev sent tim steps K} : onR [.struct [.sl true 16 .str (no_index names), .sl true 16 (.pair (.int .i64) (.int .i64)) (no_index code), .str f, .int .u64 s, .int .i64 k, .sl true 8 (.int .i64) (no_index args), .int .i64 now, .int .i64 pc, .own 1, .arr 8 (.int .i64) (no_index st), .own 2, .own 3, .own 4, .int .i64 steps],
 .row false 8 (.int .i64) (no_index stack), .row false 16 (.pair (.int .i64) (.int .i64)) (no_index ev), .row false 32 (.pair .str (.pair (.int .i64) (.int .i64))) (no_index sent), .row false 48 (.pair .str (.pair .bool (.pair (.int .i64) (.pair (.int .i64) (.int .i64))))) (no_index tim)] K
  = K ⟨names, code, f, s, k, args, now, pc, stack, st, ev, sent, tim, steps, 0, false⟩ := by
 apply propext; constructor
 ·rintro ⟨M, h1, h2, h, hk⟩
  unfold rcH at h
  cases h
  rw [← h1, ← h2]
  exact hk
 ·exact fun h => ⟨_, rfl, rfl, rfl, h⟩
def C134 : Contract := fun args hp K => match args, hp with
 | [.bool b], [] => K (.int .i64 (truthI b)) []
 | _, _ => False
theorem s134 : Sound Tryz.prog 134 C134 := by
 refine sound_of_okF ok134 .nil ?_
 intro args hp K h
 unfold C134 at h
 split at h
 ·rename_i b
  refine ⟨by simp, [], ?_⟩
  unfold truthI at h
  simp (maxSteps:=9^9) only [a134, r134, go_sem, Nat.reduceBEq]
  refine sw_intro (fun hb => ?_) (fun hb => ?_) <;> (rw [hb] at h; exact h)
 ·exact h.elim
def effT : List (Int × Int) := [(0, 0), (0, 1), (0, 1), (1, 0), (0, 1), (0, 1), (2, 1), (2, 1), (2, 1), (2, 1), (2, 1), (1, 1), (1, 2), (1, 0), (2, 2), (0, 0), (1, 0), (2, 0), (2, 0), (2, 0), (0, 0), (0, 0), (0, 1), (0, 1)]
def effI (op : Int) : Int × Int := effT.getD op.toNat (0, 0)
def C125 : Contract := fun args hp K => match args, hp with
 | [.int .i64 op], [] => (0 ≤ op ∧ op < 24) ∧ K (.tup [.int .i64 (effI op).1, .int .i64 (effI op).2]) []
 | _, _ => False
theorem s125 : Sound Tryz.prog 125 C125 := by
 refine sound_of_okF ok125 .nil ?_
 intro args hp K h
 unfold C125 at h
 split at h
 ·rename_i op
  obtain ⟨h0, h⟩ := h
  refine ⟨by simp, [], ?_⟩
  have hop : op = 0 ∨ op = 1 ∨ op = 2 ∨ op = 3 ∨ op = 4 ∨ op = 5 ∨ op = 6 ∨ op = 7 ∨ op = 8 ∨ op = 9 ∨ op = 10 ∨ op = 11 ∨ op = 12 ∨ op = 13 ∨ op = 14 ∨ op = 15 ∨ op = 16 ∨ op = 17 ∨ op = 18 ∨ op = 19 ∨ op = 20 ∨ op = 21 ∨ op = 22 ∨ op = 23 := by omega
  clear h0
  rcases hop with rfl | rfl | rfl | rfl | rfl | rfl | rfl | rfl | rfl | rfl | rfl | rfl | rfl | rfl | rfl | rfl | rfl | rfl | rfl | rfl | rfl | rfl | rfl | rfl <;> simp (maxSteps:=9^9) only [a125, r125, go_sem, Int.reduceEq, Nat.reduceBEq] <;> exact h
 ·exact h.elim
def lastI (l : List Int) : Int := l.getD (l.length - 1) 0
def initI (l : List Int) : List Int := l.take (l.length - 1)
def C126 : Contract := fun args hp K => match args with
 | [.ptr 0 0] => onR hp fun M => (M.stack.length ≤ 16 ∧ M.stack.length ≠ 0) ∧ K (.int .i64 (lastI M.stack)) (rcH true { M with stack := initI M.stack })
 | _ => False
theorem s126 : Sound Tryz.prog 126 C126 := by
 refine sound_of_okF ok126 .nil ?_
 intro args hp K h
 unfold C126 at h
 split at h
 ·obtain ⟨M, _, _, rfl, ⟨h1, h2⟩, h⟩ := h
  refine ⟨by simp, [], ?_⟩
  have hmx := maxLen_val
  unfold lastI initI at h
  unfold rcH at h ⊢
  simp (maxSteps:=9^9) only [a126, r126, go_sem, Int.reduceToNat, Nat.reduceLeDiff, Nat.reduceSub, Nat.reduceMul, Nat.reduceBEq, Nat.reduceAdd]
  rintro _ _ m rfl _ _ m1 hm1
  rw [w64 (by omega)] at hm1
  subst hm1
  have e1 : ((M.stack.length : Int) - 1).toNat = M.stack.length - 1 := by omega
  refine nd_intro ⟨by omega, by omega⟩ (nd_intro (by omega) (nd_intro ⟨by omega, by omega⟩ ⟨fun h9 => h9, fun _ => ?_⟩))
  rw [e1, Nat.sub_zero]
  exact h
 ·exact h.elim
def C127 : Contract := fun args hp K => match args with
 | [.ptr 0 0, .int .i64 x] => onR hp fun M => M.stack.length ≤ 100 ∧ K (.tup []) (rcH true { M with stack := M.stack ++ [x] })
 | _ => False
theorem s127 : Sound Tryz.prog 127 C127 := by
 refine sound_of_okF ok127 .nil ?_
 intro args hp K h
 unfold C127 at h
 split at h
 ·rename_i x
  obtain ⟨M, _, _, rfl, h1, h⟩ := h
  refine ⟨by simp, [], ?_⟩
  unfold rcH at h ⊢
  simp (maxSteps:=9^9) only [a127, r127, go_sem, Nat.reduceLeDiff, Nat.reduceSub, Nat.reduceMul, Nat.reduceBEq, Nat.reduceAdd]
  exact ⟨fun _ => by omega, fun _ => h⟩
 ·exact h.elim
def valR (M : Mc) (n : Nat) (arg x y : Int) : Int :=
 match n with
 | 1 => arg
 | 2 => elt (.int .i64) M.st arg.toNat
 | 4 => if arg < (M.args.length : Int) then elt (.int .i64) M.args arg.toNat else 0
 | 5 => M.k
 | 6 => opI 6 x y
 | 7 => opI 7 x y
 | 8 => opI 8 x y
 | 9 => opI 9 x y
 | 10 => opI 10 x y
 | 11 => truthI (decide (x = 0))
 | 22 => M.now
 | 23 => IntKind.i64.wrap M.s
 | _ => 0
def C129 : Contract := fun args hp K => match args with
 | [.ptr 0 0, .agg [.int .i64 op, .int .i64 arg], .int .i64 x, .int .i64 y] => onR hp fun M => (0 ≤ op ∧ op < 24) ∧ M.st.length = 8 ∧ argOk M op.toNat arg ∧ K (.int .i64 (valR M op.toNat arg x y)) (rcH false M)
 | _ => False
theorem s129 : Sound Tryz.prog 129 C129 := by
 refine sound_of_okF ok129 (.cons s134 (callable_of_okF ok134) .nil) ?_
 intro args hp K h
 unfold C129 at h
 split at h
 ·rename_i op arg x y
  obtain ⟨M, _, _, rfl, ho, h8, ⟨a1, a2, a3⟩, h⟩ := h
  refine ⟨by simp, [], ?_⟩
  have hmx := maxLen_val
  have hop : op = 0 ∨ op = 1 ∨ op = 2 ∨ op = 3 ∨ op = 4 ∨ op = 5 ∨ op = 6 ∨ op = 7 ∨ op = 8 ∨ op = 9 ∨ op = 10 ∨ op = 11 ∨ op = 12 ∨ op = 13 ∨ op = 14 ∨ op = 15 ∨ op = 16 ∨ op = 17 ∨ op = 18 ∨ op = 19 ∨ op = 20 ∨ op = 21 ∨ op = 22 ∨ op = 23 := by omega
  clear ho
  unfold rcH at h ⊢
  rcases hop with rfl | rfl | rfl | rfl | rfl | rfl | rfl | rfl | rfl | rfl | rfl | rfl | rfl | rfl | rfl | rfl | rfl | rfl | rfl | rfl | rfl | rfl | rfl | rfl
  all_goals simp (maxSteps:=9^9) only [a129, r129, C134, go_sem, Int.reduceEq, Nat.reduceLeDiff, Nat.reduceSub, Nat.reduceBEq, Nat.reduceAdd]
  all_goals first | exact h | (rintro _ _ m rfl; exact h) | (rintro c rfl; exact h) | (rintro _ m rfl; exact h) | skip
  ·have b := a1 (.inl rfl)
   exact nd_intro b (nd_intro (by omega) h)
  ·have b := a2 rfl
   rw [show valR M (Int.toNat 4) arg x y = if arg < (M.args.length : Int) then elt (.int .i64) M.args arg.toNat else 0 from rfl] at h
   rintro _ _ m rfl c rfl
   refine sw_intro (fun c1 => ?_) (fun c1 => ?_) <;> simp only [decide_eq_true_eq, decide_eq_false_iff_not] at c1
   ·rw [if_pos c1] at h
    exact nd_intro ⟨b.1, c1⟩ (nd_intro (by omega) h)
   ·rw [if_neg c1] at h
    exact h
 ·exact h.elim
def outF (M : Mc) (n : Nat) (arg x y : Int) : Mc :=
 match n with
 | 17 => sendM M (nmI M arg) x y
 | 18 => sendM M M.f x y
 | 19 => remM M (nmI M arg) x y (badR M x y)
 | _ => { M with tim := M.tim ++ [(nmI M arg, true, 0, 0, 0)] }
theorem sendM_e {M : Mc} {to : ByteArray} {x y : Int} (h : to = ByteArray.empty) : sendM M to x y = M := if_pos h
theorem refM_t {M : Mc} (hf : M.failed = 0) : refM M true = { M with failed := 12 } := if_pos ⟨rfl, hf⟩
theorem refM_f {M : Mc} : refM M false = M := if_neg (fun h => by cases h.1)
theorem sendM_r {M : Mc} {to : ByteArray} {x y : Int} (hf : M.failed = 0) (h : ¬ to = ByteArray.empty) (h4 : 4 ≤ (M.sent.length : Int)) : sendM M to x y = { M with failed := 12 } := by
 unfold sendM
 rw [if_neg h, decide_eq_true h4, refM_t hf]
 exact if_neg (fun h9 => absurd h9 (show ¬ (12 : Int) = 0 by decide))
theorem sendM_s {M : Mc} {to : ByteArray} {x y : Int} (hf : M.failed = 0) (h : ¬ to = ByteArray.empty) (h4 : ¬ 4 ≤ (M.sent.length : Int)) : sendM M to x y = { M with sent := M.sent ++ [(to, x, y)] } := by
 unfold sendM
 rw [if_neg h, decide_eq_false h4, refM_f]
 exact if_pos hf
theorem remM_r {M : Mc} {nm : ByteArray} {x y : Int} (hf : M.failed = 0) : remM M nm x y true = { M with failed := 12 } := by
 unfold remM
 rw [refM_t hf]
 exact if_neg (fun h9 => absurd h9 (show ¬ (12 : Int) = 0 by decide))
theorem remM_s {M : Mc} {nm : ByteArray} {x y : Int} (hf : M.failed = 0) : remM M nm x y false = { M with tim := M.tim ++ [(nm, false, IntKind.i64.wrap (M.now + x), y, M.k)] } := by
 unfold remM
 rw [refM_f]
 exact if_pos hf
def C128 : Contract := fun args hp K => match args with
 | [.ptr 0 0, .agg [.int .i64 op, .int .i64 arg], .int .i64 x, .int .i64 y] => onR hp fun M => (17 ≤ op ∧ op ≤ 20) ∧ OkM M ∧ 0 ≤ M.now ∧ argOk M op.toNat arg ∧
   ((outF M op.toNat arg x y).failed = 0 → K (.tup [.bool true, .int .i64 0]) (rcH true (outF M op.toNat arg x y))) ∧
   ((outF M op.toNat arg x y).failed ≠ 0 → K (.tup [.bool false, .int .i64 (outF M op.toNat arg x y).failed]) (rcH true M))
 | _ => False
theorem s128 : Sound Tryz.prog 128 C128 := by
 refine sound_of_okF ok128 .nil ?_
 intro args hp K h
 unfold C128 at h
 split at h
 ·rename_i op arg x y
  obtain ⟨M, hf, _, rfl, ho, hM, hnow, ⟨a1, a2, a3⟩, h1, h2⟩ := h
  refine ⟨by simp, [], ?_⟩
  have hmx := maxLen_val
  have hs4 := hM.sent
  have ht4 := hM.tim
  have hop : op = 17 ∨ op = 18 ∨ op = 19 ∨ op = 20 := by omega
  clear ho
  unfold rcH at h1 h2 ⊢
  rcases hop with rfl | rfl | rfl | rfl
  all_goals simp (maxSteps:=9^9) only [a128, r128, go_sem, Int.reduceEq, Nat.reduceLeDiff, Nat.reduceSub, Nat.reduceMul, Nat.reduceBEq, Nat.reduceAdd]
  ·have b := a3 (.inl rfl)
   refine nd_intro b (nd_intro (by omega) ?_)
   rintro c rfl
   refine sw_intro (fun c1 => ?_) (fun c1 => ?_) <;> simp only [decide_eq_true_eq, decide_eq_false_iff_not] at c1
   ·have e := sendM_e (M := M) (to := nmI M arg) (x := x) (y := y) c1
    rw [show outF M (Int.toNat 17) arg x y = sendM M (nmI M arg) x y from rfl, e] at h1
    exact h1 hf
   rintro _ _ m rfl c rfl
   refine sw_intro (fun c2 => ?_) (fun c2 => ?_) <;> simp only [decide_eq_true_eq, decide_eq_false_iff_not] at c2
   ·rw [show outF M (Int.toNat 17) arg x y = sendM M (nmI M arg) x y from rfl, sendM_r (to := nmI M arg) (x := x) (y := y) hf c1 c2] at h2
    exact h2 (show ¬ (12 : Int) = 0 by decide)
   ·rw [show outF M (Int.toNat 17) arg x y = sendM M (nmI M arg) x y from rfl, sendM_s (to := nmI M arg) (x := x) (y := y) hf c1 c2] at h1
    exact ⟨fun _ => by omega, fun _ => h1 hf⟩
  ·rintro c rfl
   refine sw_intro (fun c1 => ?_) (fun c1 => ?_) <;> simp only [decide_eq_true_eq, decide_eq_false_iff_not] at c1
   ·have e := sendM_e (M := M) (x := x) (y := y) c1
    rw [show outF M (Int.toNat 18) arg x y = sendM M M.f x y from rfl, e] at h1
    exact h1 hf
   rintro _ _ m rfl c rfl
   refine sw_intro (fun c2 => ?_) (fun c2 => ?_) <;> simp only [decide_eq_true_eq, decide_eq_false_iff_not] at c2
   ·rw [show outF M (Int.toNat 18) arg x y = sendM M M.f x y from rfl, sendM_r hf c1 c2] at h2
    exact h2 (show ¬ (12 : Int) = 0 by decide)
   ·rw [show outF M (Int.toNat 18) arg x y = sendM M M.f x y from rfl, sendM_s hf c1 c2] at h1
    exact ⟨fun _ => by omega, fun _ => h1 hf⟩
  ·have b := a3 (.inr (.inl rfl))
   have e0 : outF M (Int.toNat 19) arg x y = remM M (nmI M arg) x y (badR M x y) := rfl
   rintro n1 m hm n2 m1 hm1 _ _ m2 hm2
   rw [inR_i64] at n1 n2
   rw [wu64 (by omega)] at hm
   subst m
   rintro c rfl
   refine sw_intro (fun c1 => ?_) (fun c1 => ?_) <;> simp only [decide_eq_true_eq, decide_eq_false_iff_not] at c1
   ·rw [e0, show badR M x y = true by unfold badR; rw [decide_eq_true c1]; rfl, remM_r hf] at h2
    exact h2 (show ¬ (12 : Int) = 0 by decide)
   rw [wu64 (by omega)] at hm1
   subst m1
   rw [wu64 (by omega)] at hm2
   subst m2
   rintro c rfl
   refine sw_intro (fun c2 => ?_) (fun c2 => ?_) <;> simp only [decide_eq_true_eq, decide_eq_false_iff_not] at c2
   ·have hw : IntKind.i64.wrap (M.now + x) < 0 := by
     simp [IntKind.wrap, IntKind.signed, IntKind.bits]
     split <;> omega
    rw [e0, show badR M x y = true by unfold badR; rw [decide_eq_true hw]; simp, remM_r hf] at h2
    exact h2 (show ¬ (12 : Int) = 0 by decide)
   have hw : IntKind.i64.wrap (M.now + x) = M.now + x := w64 (by omega)
   rintro c rfl
   refine sw_intro (fun c3 => ?_) (fun c3 => ?_) <;> simp only [decide_eq_true_eq, decide_eq_false_iff_not] at c3
   ·rw [e0, show badR M x y = true by unfold badR; rw [decide_eq_true c3]; simp, remM_r hf] at h2
    exact h2 (show ¬ (12 : Int) = 0 by decide)
   rw [e0, show badR M x y = false by unfold badR; rw [hw, decide_eq_false c1, decide_eq_false c3, decide_eq_false (show ¬ M.now + x < 0 by omega)]; rfl, remM_s hf] at h1
   refine nd_intro b (nd_intro (by omega) ?_)
   rintro _ m rfl
   exact ⟨fun _ => by omega, fun _ => h1 hf⟩
  ·have b := a3 (.inr (.inr rfl))
   exact nd_intro b (nd_intro (by omega) ⟨fun _ => by omega, fun _ => h1 hf⟩)
 ·exact h.elim
end Go.V
namespace Go.V
open Go.Proofs
set_option maxRecDepth 100000
set_option maxHeartbeats 16000000
set_option linter.unusedSimpArgs false
set_option linter.unnecessarySimpa false
set_option linter.unusedVariables false
/-! ### a step of both machines -/
theorem popM_ok {M : Mc} (hf : M.failed = 0) (h : M.stack.length ≠ 0) : popM M = (lastI M.stack, { M with stack := initI M.stack }) := by
 unfold popM lastI initI
 rw [if_neg (fun hh => hh hf), if_neg h]
theorem popM_no {M : Mc} (hf : M.failed = 0) (h : M.stack.length = 0) : popM M = (0, { M with failed := 10 }) := by
 unfold popM
 rw [if_neg (fun hh => hh hf), if_pos h]
theorem initI_len (l : List Int) : (initI l).length = l.length - 1 := by unfold initI; rw [List.length_take]; omega
theorem twoM_ok {M : Mc} (hf : M.failed = 0) (h : 2 ≤ M.stack.length) : twoM M = ((lastI (initI M.stack), lastI M.stack), { M with stack := initI (initI M.stack) }) := by
 unfold twoM
 rw [popM_ok hf (by omega)]
 simp only
 rw [popM_ok (M := { M with stack := initI M.stack }) hf (by show (initI M.stack).length ≠ 0; rw [initI_len]; omega)]
theorem popM_bad {M : Mc} (hf : M.failed ≠ 0) : popM M = (0, M) := by
 unfold popM
 rw [if_pos hf]
theorem twoM_no {M : Mc} (hf : M.failed = 0) (h : M.stack.length < 2) : (twoM M).2.failed = 10 := by
 unfold twoM
 by_cases h0 : M.stack.length = 0
 ·rw [popM_no hf h0]
  simp only
  rw [popM_bad (M := { M with failed := 10 }) (show ¬ (10 : Int) = 0 by decide)]
 ·rw [popM_ok hf h0]
  simp only
  rw [popM_no (M := { M with stack := initI M.stack }) hf (by show (initI M.stack).length = 0; rw [initI_len]; omega)]
theorem pushM_ok {M : Mc} {xs : List Int} (hf : M.failed = 0) (h : ¬ 16 < M.stack.length + xs.length) : pushM M xs = { M with stack := M.stack ++ xs } := by
 unfold pushM
 rw [if_neg (fun hh => hh hf), if_neg h]
theorem pushM_no {M : Mc} {xs : List Int} (hf : M.failed = 0) (h : 16 < M.stack.length + xs.length) : pushM M xs = { M with failed := 10 } := by
 unfold pushM
 rw [if_neg (fun hh => hh hf), if_pos h]
theorem push1_no {M : Mc} {v : Int} (hf : M.failed = 0) (h : 16 < M.stack.length + 1) : pushM M [v] = { M with failed := 10 } := pushM_no hf h
theorem push1_ok {M : Mc} {v : Int} (hf : M.failed = 0) (h : M.stack.length + 1 ≤ 16) : pushM M [v] = { M with stack := M.stack ++ [v] } := pushM_ok hf (by show ¬ 16 < M.stack.length + 1; omega)
theorem pushM_bad {M : Mc} {xs : List Int} (hf : M.failed ≠ 0) : pushM M xs = M := by
 unfold pushM
 rw [if_pos hf]
theorem ten : ¬ (10 : Int) = 0 := by decide
theorem step_short {M : Mc} {op arg : Int} (hop : 0 ≤ op ∧ op < 24) (hf : M.failed = 0) (hl : M.stack.length ≤ 16) (h : (M.stack.length : Int) < (effI op).1 ∨ 16 < (M.stack.length : Int) - (effI op).1 + (effI op).2) : (stepN M op.toNat arg).failed = 10 := by
  have hop : op = 0 ∨ op = 1 ∨ op = 2 ∨ op = 3 ∨ op = 4 ∨ op = 5 ∨ op = 6 ∨ op = 7 ∨ op = 8 ∨ op = 9 ∨ op = 10 ∨ op = 11 ∨ op = 12 ∨ op = 13 ∨ op = 14 ∨ op = 15 ∨ op = 16 ∨ op = 17 ∨ op = 18 ∨ op = 19 ∨ op = 20 ∨ op = 21 ∨ op = 22 ∨ op = 23 := by omega
  rcases hop with rfl | rfl | rfl | rfl | rfl | rfl | rfl | rfl | rfl | rfl | rfl | rfl | rfl | rfl | rfl | rfl | rfl | rfl | rfl | rfl | rfl | rfl | rfl | rfl
  · rcases h with h | h
    · exact absurd h (by show ¬ (M.stack.length : Int) < 0; omega)
    · exact absurd h (by show ¬ 16 < (M.stack.length : Int) - 0 + 0; omega)
  · have h : 16 < M.stack.length + 1 := by
      rcases h with h | h
      · exact absurd h (by show ¬ (M.stack.length : Int) < 0; omega)
      · have h : 16 < (M.stack.length : Int) - 0 + 1 := h
        omega
    exact congrArg Mc.failed (push1_no hf h)
  · have h : 16 < M.stack.length + 1 := by
      rcases h with h | h
      · exact absurd h (by show ¬ (M.stack.length : Int) < 0; omega)
      · have h : 16 < (M.stack.length : Int) - 0 + 1 := h
        omega
    exact congrArg Mc.failed (push1_no hf h)
  · have h : M.stack.length = 0 := by
      rcases h with h | h
      · have h : (M.stack.length : Int) < 1 := h
        omega
      · have h : 16 < (M.stack.length : Int) - 1 + 0 := h
        omega
    have e := popM_no hf h
    show (if (popM M).2.failed = 0 then { (popM M).2 with st := (popM M).2.st.set arg.toNat (popM M).1, ev := (popM M).2.ev ++ [(arg, (popM M).1)] } else (popM M).2).failed = 10
    rw [e, if_neg (show ¬ (10 : Int) = 0 by decide)]
  · have h : 16 < M.stack.length + 1 := by
      rcases h with h | h
      · exact absurd h (by show ¬ (M.stack.length : Int) < 0; omega)
      · have h : 16 < (M.stack.length : Int) - 0 + 1 := h
        omega
    show (if arg < (M.args.length : Int) then pushM M [elt (.int .i64) M.args arg.toNat] else pushM M [0]).failed = 10
    split <;> exact congrArg Mc.failed (push1_no hf h)
  · have h : 16 < M.stack.length + 1 := by
      rcases h with h | h
      · exact absurd h (by show ¬ (M.stack.length : Int) < 0; omega)
      · have h : 16 < (M.stack.length : Int) - 0 + 1 := h
        omega
    exact congrArg Mc.failed (push1_no hf h)
  · have h : M.stack.length < 2 := by
      rcases h with h | h
      · have h : (M.stack.length : Int) < 2 := h
        omega
      · have h : 16 < (M.stack.length : Int) - 2 + 1 := h
        omega
    have e := twoM_no hf h
    exact (congrArg Mc.failed (pushM_bad (by rw [e]; exact ten))).trans e
  · have h : M.stack.length < 2 := by
      rcases h with h | h
      · have h : (M.stack.length : Int) < 2 := h
        omega
      · have h : 16 < (M.stack.length : Int) - 2 + 1 := h
        omega
    have e := twoM_no hf h
    exact (congrArg Mc.failed (pushM_bad (by rw [e]; exact ten))).trans e
  · have h : M.stack.length < 2 := by
      rcases h with h | h
      · have h : (M.stack.length : Int) < 2 := h
        omega
      · have h : 16 < (M.stack.length : Int) - 2 + 1 := h
        omega
    have e := twoM_no hf h
    exact (congrArg Mc.failed (pushM_bad (by rw [e]; exact ten))).trans e
  · have h : M.stack.length < 2 := by
      rcases h with h | h
      · have h : (M.stack.length : Int) < 2 := h
        omega
      · have h : 16 < (M.stack.length : Int) - 2 + 1 := h
        omega
    have e := twoM_no hf h
    exact (congrArg Mc.failed (pushM_bad (by rw [e]; exact ten))).trans e
  · have h : M.stack.length < 2 := by
      rcases h with h | h
      · have h : (M.stack.length : Int) < 2 := h
        omega
      · have h : 16 < (M.stack.length : Int) - 2 + 1 := h
        omega
    have e := twoM_no hf h
    exact (congrArg Mc.failed (pushM_bad (by rw [e]; exact ten))).trans e
  · have h : M.stack.length = 0 := by
      rcases h with h | h
      · have h : (M.stack.length : Int) < 1 := h
        omega
      · have h : 16 < (M.stack.length : Int) - 1 + 1 := h
        omega
    show (pushM (popM M).2 [truthI (decide ((popM M).1 = 0))]).failed = 10
    rw [popM_no hf h, pushM_bad (show ¬ (10 : Int) = 0 by decide)]
  · show (pushM (popM M).2 [(popM M).1, (popM M).1]).failed = 10
    by_cases h0 : M.stack.length = 0
    · rw [popM_no hf h0, pushM_bad (show ¬ (10 : Int) = 0 by decide)]
    · have h : 16 < M.stack.length + 1 := by
        rcases h with h | h
        · have h : (M.stack.length : Int) < 1 := h
          omega
        · have h : 16 < (M.stack.length : Int) - 1 + 2 := h
          omega
      rw [popM_ok hf h0, pushM_no (M := { M with stack := initI M.stack }) hf (by show 16 < (initI M.stack).length + 2; rw [initI_len]; omega)]
  · have h : M.stack.length = 0 := by
      rcases h with h | h
      · have h : (M.stack.length : Int) < 1 := h
        omega
      · have h : 16 < (M.stack.length : Int) - 1 + 0 := h
        omega
    have e := popM_no hf h
    show (popM M).2.failed = 10
    rw [e]
  · have h : M.stack.length < 2 := by
      rcases h with h | h
      · have h : (M.stack.length : Int) < 2 := h
        omega
      · have h : 16 < (M.stack.length : Int) - 2 + 2 := h
        omega
    have e := twoM_no hf h
    exact (congrArg Mc.failed (pushM_bad (by rw [e]; exact ten))).trans e
  · rcases h with h | h
    · exact absurd h (by show ¬ (M.stack.length : Int) < 0; omega)
    · exact absurd h (by show ¬ 16 < (M.stack.length : Int) - 0 + 0; omega)
  · have h : M.stack.length = 0 := by
      rcases h with h | h
      · have h : (M.stack.length : Int) < 1 := h
        omega
      · have h : 16 < (M.stack.length : Int) - 1 + 0 := h
        omega
    have e := popM_no hf h
    show (if (popM M).1 = 0 ∧ (popM M).2.failed = 0 then { (popM M).2 with pc := arg } else (popM M).2).failed = 10
    rw [e, if_neg (fun hh => absurd hh.2 (show ¬ (10 : Int) = 0 by decide))]
  · have h : M.stack.length < 2 := by
      rcases h with h | h
      · have h : (M.stack.length : Int) < 2 := h
        omega
      · have h : 16 < (M.stack.length : Int) - 2 + 0 := h
        omega
    have e := twoM_no hf h
    have e0 : (twoM M).2.failed ≠ 0 := by rw [e]; exact ten
    have er : ∀ b, refM (twoM M).2 b = (twoM M).2 := fun b => if_neg (fun hh => e0 hh.2)
    show (sendM (twoM M).2 (nmI (twoM M).2 arg) (twoM M).1.1 (twoM M).1.2).failed = 10
    unfold sendM
    rw [er, if_neg e0]
    split <;> exact e
  · have h : M.stack.length < 2 := by
      rcases h with h | h
      · have h : (M.stack.length : Int) < 2 := h
        omega
      · have h : 16 < (M.stack.length : Int) - 2 + 0 := h
        omega
    have e := twoM_no hf h
    have e0 : (twoM M).2.failed ≠ 0 := by rw [e]; exact ten
    have er : ∀ b, refM (twoM M).2 b = (twoM M).2 := fun b => if_neg (fun hh => e0 hh.2)
    show (sendM (twoM M).2 (twoM M).2.f (twoM M).1.1 (twoM M).1.2).failed = 10
    unfold sendM
    rw [er, if_neg e0]
    split <;> exact e
  · have h : M.stack.length < 2 := by
      rcases h with h | h
      · have h : (M.stack.length : Int) < 2 := h
        omega
      · have h : 16 < (M.stack.length : Int) - 2 + 0 := h
        omega
    have e := twoM_no hf h
    have e0 : (twoM M).2.failed ≠ 0 := by rw [e]; exact ten
    have er : ∀ b, refM (twoM M).2 b = (twoM M).2 := fun b => if_neg (fun hh => e0 hh.2)
    show (remM (twoM M).2 (nmI (refM (twoM M).2 (badR (twoM M).2 (twoM M).1.1 (twoM M).1.2)) arg) (twoM M).1.1 (twoM M).1.2 (badR (twoM M).2 (twoM M).1.1 (twoM M).1.2)).failed = 10
    unfold remM
    rw [er, if_neg e0]
    exact e
  · rcases h with h | h
    · exact absurd h (by show ¬ (M.stack.length : Int) < 0; omega)
    · exact absurd h (by show ¬ 16 < (M.stack.length : Int) - 0 + 0; omega)
  · rcases h with h | h
    · exact absurd h (by show ¬ (M.stack.length : Int) < 0; omega)
    · exact absurd h (by show ¬ 16 < (M.stack.length : Int) - 0 + 0; omega)
  · have h : 16 < M.stack.length + 1 := by
      rcases h with h | h
      · exact absurd h (by show ¬ (M.stack.length : Int) < 0; omega)
      · have h : 16 < (M.stack.length : Int) - 0 + 1 := h
        omega
    exact congrArg Mc.failed (push1_no hf h)
  · have h : 16 < M.stack.length + 1 := by
      rcases h with h | h
      · exact absurd h (by show ¬ (M.stack.length : Int) < 0; omega)
      · have h : 16 < (M.stack.length : Int) - 0 + 1 := h
        omega
    exact congrArg Mc.failed (push1_no hf h)
end Go.V
