/- A part of the proof layer, or functions of the given program in it: contracts and their proofs. -/
import Derived.Test.YtaeoiobjddknbaaGreatDoorMA71
import Derived.Test.YtaeoiobjddknbaaGreatDoorMS2
import Derived.Test.YtaeoiobjddknbaaGreatDoorMB7
import Derived.Test.YtaeoiobjddknbaaGreatDoorMB5
namespace Go.V
open Go.Proofs
set_option maxRecDepth 100000
set_option maxHeartbeats 8000000
set_option linter.unusedSimpArgs false
set_option linter.unnecessarySimpa false
set_option linter.unusedVariables false
def C25 : Contract := fun args hp K => match args, hp with
 | [.agg [x, y]], [] => onL .str 16 x fun names => onL EvT 16 y fun code => names.length ≤ 100000 ∧ (code : List EvT.den).length ≤ 100000 ∧ K (.agg [.sl true 16 .str names, .sl true 16 EvT code]) []
 | _, _ => False
def L25 (x y : SV) (names : List ByteArray) (code : List EvT.den) : LoopAnn := { G := Nat, I := fun i => ⟨[(1, .ptr 0 0), (2, .ptr 1 0), (3, .ptr 4 0), (12, .int .i64 code.length), (13, .int .i64 i)], [.struct [x, y], .struct [.own 2, .own 3], .row true 16 .str [], .row true 16 EvT [], .struct [.own 5, .own 6], .row true 16 .str names, .row true 16 EvT (code.take i)]⟩, R := fun _ i => i ≤ code.length, μ := fun i => code.length - i }
theorem L25_I {x y names code} (i : Nat) : (L25 x y names code).I i = ⟨[(1, .ptr 0 0), (2, .ptr 1 0), (3, .ptr 4 0), (12, .int .i64 code.length), (13, .int .i64 i)], [.struct [x, y], .struct [.own 2, .own 3], .row true 16 .str [], .row true 16 EvT [], .struct [.own 5, .own 6], .row true 16 .str names, .row true 16 EvT (code.take i)]⟩ := rfl
theorem s25 : Sound Tryz.prog 25 C25 := by
 refine sound_of_okF ok25 .nil ?_
 intro args hp K h
 unfold C25 at h
 split at h
 ·rename_i x y
  have hmx := maxLen_val
  rcases h with ⟨rfl, ⟨rfl, hn, hc, h⟩ | ⟨q, code, rfl, hn, hc, h⟩⟩ | ⟨p, names, rfl, ⟨rfl, hn, hc, h⟩ | ⟨q, code, rfl, hn, hc, h⟩⟩
  ·refine ⟨by simp, [(1, L25 .nils .nils ([] : List ByteArray) ([] : List EvT.den))], ?_⟩
   simp (maxSteps:=9^9) only [a25, r25, go_sem, Int.reduceLT, Int.reduceLE, Int.reduceEq, Int.reduceNe, Int.reduceAdd, Int.reduceSub, Int.reduceMul, Int.reduceToNat, Int.reduceNeg, Nat.reduceEqDiff, Nat.reduceLeDiff, Nat.reduceSub, Nat.reduceMul, Nat.reduceLT, Nat.reduceBEq, Nat.reduceAdd]
   refine loop_intro (A := L25 .nils .nils ([] : List ByteArray) ([] : List EvT.den)) (0 : Nat) ?_ (Nat.zero_le _) ?_
   ·simp (maxSteps:=9^9) only [L25_I, go_sem, Int.reduceLT, Int.reduceLE, Int.reduceEq, Int.reduceNe, Int.reduceAdd, Int.reduceSub, Int.reduceMul, Int.reduceToNat, Int.reduceNeg, Nat.reduceEqDiff, Nat.reduceLeDiff, Nat.reduceSub, Nat.reduceMul, Nat.reduceLT, Nat.reduceBEq, Nat.reduceAdd]
    rfl
   ·intro (i : Nat) (hi : i ≤ ([] : List EvT.den).length)
    simp (maxSteps:=9^9) only [L25_I, go_sem, Int.reduceLT, Int.reduceLE, Int.reduceEq, Int.reduceNe, Int.reduceAdd, Int.reduceSub, Int.reduceMul, Int.reduceToNat, Int.reduceNeg, Nat.reduceEqDiff, Nat.reduceLeDiff, Nat.reduceSub, Nat.reduceMul, Nat.reduceLT, Nat.reduceBEq, Nat.reduceAdd]
    rintro c rfl
    refine sw_intro (fun hc => ?_) (fun hc => ?_) <;> simp only [decide_eq_true_eq, decide_eq_false_iff_not] at hc
    ·exact absurd hc (by omega)
    ·rw [List.take_nil]
     exact h
  ·refine ⟨by simp, [(1, L25 .nils (.sl q 16 EvT code) ([] : List ByteArray) (code : List EvT.den))], ?_⟩
   simp (maxSteps:=9^9) only [a25, r25, go_sem, Int.reduceLT, Int.reduceLE, Int.reduceEq, Int.reduceNe, Int.reduceAdd, Int.reduceSub, Int.reduceMul, Int.reduceToNat, Int.reduceNeg, Nat.reduceEqDiff, Nat.reduceLeDiff, Nat.reduceSub, Nat.reduceMul, Nat.reduceLT, Nat.reduceBEq, Nat.reduceAdd]
   rintro _ _ m rfl
   refine loop_intro (A := L25 .nils (.sl q 16 EvT code) ([] : List ByteArray) (code : List EvT.den)) (0 : Nat) ?_ (Nat.zero_le _) ?_
   ·simp (maxSteps:=9^9) only [L25_I, go_sem, Int.reduceLT, Int.reduceLE, Int.reduceEq, Int.reduceNe, Int.reduceAdd, Int.reduceSub, Int.reduceMul, Int.reduceToNat, Int.reduceNeg, Nat.reduceEqDiff, Nat.reduceLeDiff, Nat.reduceSub, Nat.reduceMul, Nat.reduceLT, Nat.reduceBEq, Nat.reduceAdd]
    rfl
   ·intro (i : Nat) (hi : i ≤ (code : List EvT.den).length)
    simp (maxSteps:=9^9) only [L25_I, go_sem, Int.reduceLT, Int.reduceLE, Int.reduceEq, Int.reduceNe, Int.reduceAdd, Int.reduceSub, Int.reduceMul, Int.reduceToNat, Int.reduceNeg, Nat.reduceEqDiff, Nat.reduceLeDiff, Nat.reduceSub, Nat.reduceMul, Nat.reduceLT, Nat.reduceBEq, Nat.reduceAdd]
    rintro c rfl
    refine sw_intro (fun hc => ?_) (fun hc => ?_) <;> simp only [decide_eq_true_eq, decide_eq_false_iff_not] at hc
    ·refine nd_intro hc ⟨fun h9 => by rw [List.length_take]; omega, fun h9 => ?_⟩
     rintro _ _ m hm
     rw [w64 (by omega)] at hm
     subst hm
     refine lpE_intro (A := L25 .nils (.sl q 16 EvT code) ([] : List ByteArray) (code : List EvT.den)) (i + 1 : Nat) ?_ (by show i + 1 ≤ code.length; omega) (by show code.length - (i + 1) < code.length - i; omega)
     have e := take_elt (t := EvT) hc
     simp (maxSteps:=9^9) only [L25_I, ← e, go_sem, Int.reduceLT, Int.reduceLE, Int.reduceEq, Int.reduceNe, Int.reduceAdd, Int.reduceSub, Int.reduceMul, Int.reduceToNat, Int.reduceNeg, Nat.reduceEqDiff, Nat.reduceLeDiff, Nat.reduceSub, Nat.reduceMul, Nat.reduceLT, Nat.reduceBEq, Nat.reduceAdd]
     rfl
    ·rw [List.take_of_length_le (by omega)]
     exact h
  ·refine ⟨by simp, [(1, L25 (.sl p 16 .str names) .nils (names : List ByteArray) ([] : List EvT.den))], ?_⟩
   simp (maxSteps:=9^9) only [a25, r25, go_sem, Int.reduceLT, Int.reduceLE, Int.reduceEq, Int.reduceNe, Int.reduceAdd, Int.reduceSub, Int.reduceMul, Int.reduceToNat, Int.reduceNeg, Nat.reduceEqDiff, Nat.reduceLeDiff, Nat.reduceSub, Nat.reduceMul, Nat.reduceLT, Nat.reduceBEq, Nat.reduceAdd]
   refine ⟨fun h9 => h9, fun hl => ?_⟩
   refine loop_intro (A := L25 (.sl p 16 .str names) .nils (names : List ByteArray) ([] : List EvT.den)) (0 : Nat) ?_ (Nat.zero_le _) ?_
   ·simp (maxSteps:=9^9) only [L25_I, go_sem, Int.reduceLT, Int.reduceLE, Int.reduceEq, Int.reduceNe, Int.reduceAdd, Int.reduceSub, Int.reduceMul, Int.reduceToNat, Int.reduceNeg, Nat.reduceEqDiff, Nat.reduceLeDiff, Nat.reduceSub, Nat.reduceMul, Nat.reduceLT, Nat.reduceBEq, Nat.reduceAdd]
    rfl
   ·intro (i : Nat) (hi : i ≤ ([] : List EvT.den).length)
    simp (maxSteps:=9^9) only [L25_I, go_sem, Int.reduceLT, Int.reduceLE, Int.reduceEq, Int.reduceNe, Int.reduceAdd, Int.reduceSub, Int.reduceMul, Int.reduceToNat, Int.reduceNeg, Nat.reduceEqDiff, Nat.reduceLeDiff, Nat.reduceSub, Nat.reduceMul, Nat.reduceLT, Nat.reduceBEq, Nat.reduceAdd]
    rintro c rfl
    refine sw_intro (fun hc => ?_) (fun hc => ?_) <;> simp only [decide_eq_true_eq, decide_eq_false_iff_not] at hc
    ·exact absurd hc (by omega)
    ·rw [List.take_nil]
     exact h
  ·refine ⟨by simp, [(1, L25 (.sl p 16 .str names) (.sl q 16 EvT code) (names : List ByteArray) (code : List EvT.den))], ?_⟩
   simp (maxSteps:=9^9) only [a25, r25, go_sem, Int.reduceLT, Int.reduceLE, Int.reduceEq, Int.reduceNe, Int.reduceAdd, Int.reduceSub, Int.reduceMul, Int.reduceToNat, Int.reduceNeg, Nat.reduceEqDiff, Nat.reduceLeDiff, Nat.reduceSub, Nat.reduceMul, Nat.reduceLT, Nat.reduceBEq, Nat.reduceAdd]
   refine ⟨fun h9 => h9, fun hl => ?_⟩
   rintro _ _ m rfl
   refine loop_intro (A := L25 (.sl p 16 .str names) (.sl q 16 EvT code) (names : List ByteArray) (code : List EvT.den)) (0 : Nat) ?_ (Nat.zero_le _) ?_
   ·simp (maxSteps:=9^9) only [L25_I, go_sem, Int.reduceLT, Int.reduceLE, Int.reduceEq, Int.reduceNe, Int.reduceAdd, Int.reduceSub, Int.reduceMul, Int.reduceToNat, Int.reduceNeg, Nat.reduceEqDiff, Nat.reduceLeDiff, Nat.reduceSub, Nat.reduceMul, Nat.reduceLT, Nat.reduceBEq, Nat.reduceAdd]
    rfl
   ·intro (i : Nat) (hi : i ≤ (code : List EvT.den).length)
    simp (maxSteps:=9^9) only [L25_I, go_sem, Int.reduceLT, Int.reduceLE, Int.reduceEq, Int.reduceNe, Int.reduceAdd, Int.reduceSub, Int.reduceMul, Int.reduceToNat, Int.reduceNeg, Nat.reduceEqDiff, Nat.reduceLeDiff, Nat.reduceSub, Nat.reduceMul, Nat.reduceLT, Nat.reduceBEq, Nat.reduceAdd]
    rintro c rfl
    refine sw_intro (fun hc => ?_) (fun hc => ?_) <;> simp only [decide_eq_true_eq, decide_eq_false_iff_not] at hc
    ·refine nd_intro hc ⟨fun h9 => by rw [List.length_take]; omega, fun h9 => ?_⟩
     rintro _ _ m hm
     rw [w64 (by omega)] at hm
     subst hm
     refine lpE_intro (A := L25 (.sl p 16 .str names) (.sl q 16 EvT code) (names : List ByteArray) (code : List EvT.den)) (i + 1 : Nat) ?_ (by show i + 1 ≤ code.length; omega) (by show code.length - (i + 1) < code.length - i; omega)
     have e := take_elt (t := EvT) hc
     simp (maxSteps:=9^9) only [L25_I, ← e, go_sem, Int.reduceLT, Int.reduceLE, Int.reduceEq, Int.reduceNe, Int.reduceAdd, Int.reduceSub, Int.reduceMul, Int.reduceToNat, Int.reduceNeg, Nat.reduceEqDiff, Nat.reduceLeDiff, Nat.reduceSub, Nat.reduceMul, Nat.reduceLT, Nat.reduceBEq, Nat.reduceAdd]
     rfl
    ·rw [List.take_of_length_le (by omega)]
     exact h
 ·exact h.elim
end Go.V
namespace Go.V
open Go.Proofs
set_option maxRecDepth 100000
set_option maxHeartbeats 8000000
set_option linter.unusedSimpArgs false
set_option linter.unnecessarySimpa false
set_option linter.unusedVariables false
theorem onL_den {t : Ty} {eb : Nat} {x : SV} {k : List t.den → Prop} (h : onL t eb x k) : ∃ p xs, k xs ∧ x.isArr = false ∧ ∀ E v, den E x v → den E (.sl p eb t xs) v := by
 rcases h with ⟨rfl, h⟩ | ⟨p, xs, rfl, h⟩
 ·refine ⟨true, [], h, rfl, fun E v hv => ?_⟩
  simp only [den] at hv ⊢
  subst hv
  exact .inl ⟨rfl, none, 0, rfl, by decide, fun _ => rfl⟩
 ·exact ⟨p, xs, h, rfl, fun E v hv => hv⟩
theorem agg_den {E : En} {x y x' y' : SV} {v : Value} (hx : x.isArr = false) (hy : y.isArr = false) (hx' : x'.isArr = false) (hy' : y'.isArr = false) (h1 : ∀ v, den E x v → den E x' v) (h2 : ∀ v, den E y v → den E y' v) (h : den E (.agg [x, y]) v) : den E (.agg [x', y']) v := by
 simp only [den] at h ⊢
 obtain ⟨cs, rfl, h⟩ := h
 refine ⟨cs, rfl, ?_⟩
 rw [denC_cons hx] at h
 obtain ⟨v1, c2, e1, d1, h⟩ := h
 rw [denC_cons hy] at h
 obtain ⟨v2, c3, e2, d2, h⟩ := h
 rw [denC_cons hx']
 refine ⟨v1, c2, e1, h1 _ d1, ?_⟩
 rw [denC_cons hy']
 exact ⟨v2, c3, e2, h2 _ d2, h⟩
theorem take_next {t : Ty} {xs ys : List t.den} {i : Nat} (h1 : i < xs.length) (h2 : i < ys.length) (h : xs.take i = ys.take i) (he : elt t xs i = elt t ys i) : xs.take (i + 1) = ys.take (i + 1) := by
 rw [← take_elt h1, ← take_elt h2, h, he]
def C24a : Contract := fun args hp K => match args, hp with
 | [.agg [.sl p1 16 .str n1, .sl p2 16 (.pair (.int .i64) (.int .i64)) c1], .agg [.sl p3 16 .str n2, .sl p4 16 (.pair (.int .i64) (.int .i64)) c2]], [] => K (.bool (decide (n1 = n2) && decide ((c1 : List EvT.den) = c2))) []
 | _, _ => False
def L24 (x y z u : SV) (n1 n2 : List ByteArray) : LoopAnn := { G := Nat, I := fun i => ⟨[(2, .ptr 0 0), (3, .ptr 1 0), (25, .int .i64 n1.length), (26, .int .i64 i)], [.struct [x, y], .struct [z, u]]⟩, R := fun _ i => i ≤ n1.length ∧ n1.take i = n2.take i, μ := fun i => n1.length - i }
def M24 (x y z u : SV) (c1 c2 : List EvT.den) : LoopAnn := { G := Nat, I := fun i => ⟨[(2, .ptr 0 0), (3, .ptr 1 0), (43, .int .i64 c1.length), (44, .int .i64 i)], [.struct [x, y], .struct [z, u]]⟩, R := fun _ i => i ≤ c1.length ∧ c1.take i = c2.take i, μ := fun i => c1.length - i }
theorem L24_I {x y z u : SV} {n1 n2 : List ByteArray} (i : Nat) : (L24 x y z u n1 n2).I i = ⟨[(2, .ptr 0 0), (3, .ptr 1 0), (25, .int .i64 n1.length), (26, .int .i64 i)], [.struct [x, y], .struct [z, u]]⟩ := rfl
theorem M24_I {x y z u : SV} {c1 c2 : List EvT.den} (i : Nat) : (M24 x y z u c1 c2).I i = ⟨[(2, .ptr 0 0), (3, .ptr 1 0), (43, .int .i64 c1.length), (44, .int .i64 i)], [.struct [x, y], .struct [z, u]]⟩ := rfl
attribute [local irreducible] rc
theorem s24a : Sound Tryz.prog 24 C24a := by
  refine sound_of_okF ok24 .nil ?_
  intro args hp K h
  unfold C24a at h
  split at h
  · rename_i p1 n1 p2 c1 p3 n2 p4 c2
    have hmx := maxLen_val
    refine ⟨by simp, [(1, L24 (.sl p1 16 .str n1) (.sl p2 16 EvT c1) (.sl p3 16 .str n2) (.sl p4 16 EvT c2) n1 n2), (2, M24 (.sl p1 16 .str n1) (.sl p2 16 EvT c1) (.sl p3 16 .str n2) (.sl p4 16 EvT c2) c1 c2)], ?_⟩
    simp (maxSteps:=9^9) only [a24, r24, go_sem, Int.reduceLT, Int.reduceLE, Int.reduceEq, Int.reduceNe, Int.reduceAdd, Int.reduceSub, Int.reduceMul, Int.reduceToNat, Int.reduceNeg, Nat.reduceEqDiff, Nat.reduceLeDiff, Nat.reduceSub, Nat.reduceMul, Nat.reduceLT, Nat.reduceBEq, Nat.reduceAdd]
    have hf1 : ¬ (n1 : List ByteArray) = n2 → K (.bool false) [] := fun hne => by
      have e : (decide ((n1 : List ByteArray) = n2) && decide ((c1 : List EvT.den) = c2)) = false := by rw [decide_eq_false hne]; rfl
      rw [← e]; exact h
    have hf2 : ¬ (c1 : List EvT.den) = c2 → K (.bool false) [] := fun hne => by
      have e : (decide ((n1 : List ByteArray) = n2) && decide ((c1 : List EvT.den) = c2)) = false := by rw [decide_eq_false hne, Bool.and_false]
      rw [← e]; exact h
    have ht : (n1 : List ByteArray) = n2 → (c1 : List EvT.den) = c2 → K (.bool true) [] := fun e1 e2 => by
      have e : (decide ((n1 : List ByteArray) = n2) && decide ((c1 : List EvT.den) = c2)) = true := by rw [decide_eq_true e1, decide_eq_true e2]; rfl
      rw [← e]; exact h
    rintro _ _ m hm _ _ m2 hm2 c3 hc3
    refine swn hc3 (fun h0 => hf1 (fun e => h0 (by rw [hm, hm2, e]))) (fun h0 => ?_)
    have hl1 : n1.length = n2.length := by omega
    rintro _ _ m3 hm3 _ _ m4 hm4 c4 hc4
    refine swn hc4 (fun h1 => hf2 (fun e => h1 (by rw [hm3, hm4, e]))) (fun h1 => ?_)
    have hl2 : c1.length = c2.length := by omega
    rintro _ _ _ rfl
    refine loop_intro (A := L24 (.sl p1 16 .str n1) (.sl p2 16 EvT c1) (.sl p3 16 .str n2) (.sl p4 16 EvT c2) n1 n2) (0 : Nat) ?_ ⟨by simp, by simp⟩ ?_
    · simp (maxSteps:=9^9) only [L24_I, go_sem, Int.reduceLT, Int.reduceLE, Int.reduceEq, Int.reduceNe, Int.reduceAdd, Int.reduceSub, Int.reduceMul, Int.reduceToNat, Int.reduceNeg, Nat.reduceEqDiff, Nat.reduceLeDiff, Nat.reduceSub, Nat.reduceMul, Nat.reduceLT, Nat.reduceBEq, Nat.reduceAdd]
      rfl
    · rintro (i : Nat) (⟨g1, g2⟩ : i ≤ n1.length ∧ (n1 : List ByteArray).take i = (n2 : List ByteArray).take i)
      simp (maxSteps:=9^9) only [L24_I, go_sem, Int.reduceLT, Int.reduceLE, Int.reduceEq, Int.reduceNe, Int.reduceAdd, Int.reduceSub, Int.reduceMul, Int.reduceToNat, Int.reduceNeg, Nat.reduceEqDiff, Nat.reduceLeDiff, Nat.reduceSub, Nat.reduceMul, Nat.reduceLT, Nat.reduceBEq, Nat.reduceAdd]
      intro c5 hc5
      refine swd hc5 (fun h2 => ?_) (fun h2 => ?_)
      · refine nd_intro h2 (nd_intro (by omega) ?_)
        intro c6 hc6
        refine swn hc6 (fun h3 => hf1 (fun e => h3 (by rw [e]))) (fun h3 => ?_)
        rintro _ _ m5 hm5
        rw [w64 (by omega)] at hm5
        rw [hm5, show (i : Int) + 1 = ((i + 1 : Nat) : Int) by omega]
        exact lpE_intro (A := L24 (.sl p1 16 .str n1) (.sl p2 16 EvT c1) (.sl p3 16 .str n2) (.sl p4 16 EvT c2) n1 n2) (i + 1 : Nat) rfl ⟨h2, take_next (t := .str) h2 (by omega) g2 h3⟩ (by show n1.length - (i + 1) < n1.length - i; omega)
      · have e1 : (n1 : List ByteArray) = n2 := by
          rw [List.take_of_length_le (by omega), List.take_of_length_le (by omega)] at g2
          exact g2
        rintro _ _ _ rfl
        refine loop_intro (A := M24 (.sl p1 16 .str n1) (.sl p2 16 EvT c1) (.sl p3 16 .str n2) (.sl p4 16 EvT c2) c1 c2) (0 : Nat) ?_ ⟨by simp, by simp⟩ ?_
        · simp (maxSteps:=9^9) only [M24_I, go_sem, Int.reduceLT, Int.reduceLE, Int.reduceEq, Int.reduceNe, Int.reduceAdd, Int.reduceSub, Int.reduceMul, Int.reduceToNat, Int.reduceNeg, Nat.reduceEqDiff, Nat.reduceLeDiff, Nat.reduceSub, Nat.reduceMul, Nat.reduceLT, Nat.reduceBEq, Nat.reduceAdd]
          rfl
        · rintro (j : Nat) (⟨k1, k2⟩ : j ≤ c1.length ∧ (c1 : List EvT.den).take j = (c2 : List EvT.den).take j)
          simp (maxSteps:=9^9) only [M24_I, go_sem, Int.reduceLT, Int.reduceLE, Int.reduceEq, Int.reduceNe, Int.reduceAdd, Int.reduceSub, Int.reduceMul, Int.reduceToNat, Int.reduceNeg, Nat.reduceEqDiff, Nat.reduceLeDiff, Nat.reduceSub, Nat.reduceMul, Nat.reduceLT, Nat.reduceBEq, Nat.reduceAdd]
          intro c6 hc6
          refine swd hc6 (fun h3 => ?_) (fun h3 => ?_)
          · refine nd_intro h3 (nd_intro (by omega) ?_)
            intro c7 hc7
            have hc7' : c7 = !decide (elt EvT c1 j = elt EvT c2 j) := by
              rw [hc7]
              congr 1
              rw [Bool.and_true, Bool.eq_iff_iff, Bool.and_eq_true, decide_eq_true_eq, decide_eq_true_eq, decide_eq_true_eq]
              exact ⟨fun h => Prod.ext h.1 h.2, fun h => by rw [h]; exact ⟨rfl, rfl⟩⟩
            refine swn hc7' (fun h4 => hf2 (fun e => h4 (by rw [e]))) (fun h4 => ?_)
            rintro _ _ m5 hm5
            rw [w64 (by omega)] at hm5
            rw [hm5, show (j : Int) + 1 = ((j + 1 : Nat) : Int) by omega]
            exact lpE_intro (A := M24 (.sl p1 16 .str n1) (.sl p2 16 EvT c1) (.sl p3 16 .str n2) (.sl p4 16 EvT c2) c1 c2) (j + 1 : Nat) rfl ⟨h3, take_next (t := EvT) h3 (by omega) k2 h4⟩ (by show c1.length - (j + 1) < c1.length - j; omega)
          · refine ht e1 ?_
            rw [List.take_of_length_le (by omega), List.take_of_length_le (by omega)] at k2
            exact k2
  · exact h.elim
def C24 : Contract := fun args hp K => match args, hp with
 | [.agg [x, y], .agg [z, u]], [] => onL .str 16 x fun n1 => onL EvT 16 y fun c1 => onL .str 16 z fun n2 => onL EvT 16 u fun c2 => K (.bool (decide ((n1 : List ByteArray) = n2) && decide ((c1 : List EvT.den) = c2))) []
 | _, _ => False
theorem s24 : Sound Tryz.prog 24 C24 := by
 intro args hp K h E vs hs hg hd
 unfold C24 at h
 split at h
 ·rename_i x y z u
  obtain ⟨p1, n1, h, a1, d1⟩ := onL_den h
  obtain ⟨p2, c1, h, a2, d2⟩ := onL_den h
  obtain ⟨p3, n2, h, a3, d3⟩ := onL_den h
  obtain ⟨p4, c2, h, a4, d4⟩ := onL_den h
  refine s24a [.agg [.sl p1 16 .str n1, .sl p2 16 EvT c1], .agg [.sl p3 16 .str n2, .sl p4 16 EvT c2]] [] K h E vs hs hg ?_
  simp only [denL] at hd ⊢
  obtain ⟨v, r, rfl, h1, v2, r2, rfl, h2, rfl⟩ := hd
  exact ⟨v, _, rfl, agg_den a1 a2 rfl rfl (d1 E) (d2 E) h1, v2, _, rfl, agg_den a3 a4 rfl rfl (d3 E) (d4 E) h2, rfl⟩
 ·exact h.elim
def C4 : Contract := fun args hp K => match args, hp with
 | [], [] => K (.bool true) []
 | _, _ => False
theorem awake_txt : parseGo (linesL [110, 97, 109, 101, 32, 54, 50, 10, 108, 111, 97, 100, 32, 48, 10, 112, 117, 115, 104, 32, 49, 10, 97, 100, 100, 10, 115, 116, 111, 114, 101, 32, 48, 10]) 1 [] [] false = .fin [bsOf [98]] [(2, 0), (1, 1), (6, 0), (3, 0)] false := by
 rfl
theorem pOut_fin {K : SV → List SB → Prop} {ns cs late} : pOut K (.fin ns cs late) = if late = true ∨ formP ns cs = false then K (.tup [.agg [.nils, .nils], .int .i64 0, .int .i64 2]) [] else K (.tup [.agg [.sl true 16 .str ns, .sl true 16 EvT cs], .int .i64 0, .int .i64 0]) [] := rfl
theorem pOut_bad {K : SV → List SB → Prop} {i} : pOut K (.bad i) = K (.tup [.agg [.nils, .nils], .int .i64 i, .int .i64 2]) [] := rfl
theorem use11 {s : ByteArray} {K : SV → List SB → Prop} (h1 : 20000 < s.size → K (.tup [.agg [.nils, .nils], .int .i64 0, .int .i64 4]) []) (h2 : s.size ≤ 20000 → pOut K (parseGo (linesL s.data.toList) 1 [] [] false)) : C11 [.str s] [] K := ⟨h1, h2⟩
theorem use23 {s : ByteArray} {K : SV → List SB → Prop} (h1 : 20000 < s.size → K (.tup [.agg [.nils, .nils], .int .i64 0, .int .i64 4]) []) (h2 : s.size ≤ 20000 → pOut K (parseGo (linesL s.data.toList) 1 [] [] false)) : C23 [.str s] [] K := ⟨h1, h2⟩
theorem s4 : Sound Tryz.prog 4 C4 := by
 refine sound_of_okF ok4 (.cons s11 (callable_of_okF ok11) .nil) ?_
 intro args hp K h
 unfold C4 at h
 split at h
 ·refine ⟨by simp, [], ?_⟩
  simp (maxSteps:=9^9) only [a4, r4, go_sem, Int.reduceLT, Int.reduceLE, Int.reduceEq, Int.reduceNe, Int.reduceAdd, Int.reduceSub, Int.reduceMul, Int.reduceToNat, Int.reduceNeg, Nat.reduceEqDiff, Nat.reduceLeDiff, Nat.reduceSub, Nat.reduceMul, Nat.reduceLT, Nat.reduceBEq, Nat.reduceAdd]
  refine use11 (fun h => absurd h (by decide)) (fun _ => ?_)
  have e := awake_txt
  have e2 : formP [bsOf [98]] [(2, 0), (1, 1), (6, 0), (3, 0)] = true := by rfl
  show pOut _ (parseGo (linesL [110, 97, 109, 101, 32, 54, 50, 10, 108, 111, 97, 100, 32, 48, 10, 112, 117, 115, 104, 32, 49, 10, 97, 100, 100, 10, 115, 116, 111, 114, 101, 32, 48, 10]) 1 [] [] false)
  rw [e, pOut_fin, if_neg (by rw [e2]; simp)]
  simp (maxSteps:=9^9) only [go_sem, Int.reduceLT, Int.reduceLE, Int.reduceEq, Int.reduceNe, Int.reduceAdd, Int.reduceSub, Int.reduceMul, Int.reduceToNat, Int.reduceNeg, Nat.reduceEqDiff, Nat.reduceLeDiff, Nat.reduceSub, Nat.reduceMul, Nat.reduceLT, Nat.reduceBEq, Nat.reduceAdd]
  intro _ m hm c hc
  refine swd hc (fun _ => ?_) (fun h0 => absurd hm h0)
  intro c1 hc1
  refine swd hc1 (fun _ => ?_) (fun h0 => absurd (by rfl) h0)
  intro _ m2 hm2 c2 hc2
  refine swd hc2 (fun _ => ?_) (fun h0 => absurd hm2 h0)
  refine nd_intro (by omega) ?_
  intro c3 hc3
  have e3 : c3 = true := by rw [hc3]; rfl
  rw [e3]
  exact h
 ·exact h.elim
theorem use25n {K : SV → List SB → Prop} (h : K (.agg [.sl true 16 .str [], .sl true 16 EvT []]) []) : C25 [.agg [.nils, .nils]] [] K := .inl ⟨rfl, .inl ⟨rfl, by simp, by simp, h⟩⟩
theorem use25 {ns : List ByteArray} {cs : List EvT.den} {K : SV → List SB → Prop} (h1 : ns.length ≤ 100000) (h2 : cs.length ≤ 100000) (h : K (.agg [.sl true 16 .str ns, .sl true 16 EvT cs]) []) : C25 [.agg [.sl true 16 .str ns, .sl true 16 EvT cs]] [] K := .inr ⟨_, _, rfl, .inr ⟨_, _, rfl, h1, h2, h⟩⟩
theorem use24n {K : SV → List SB → Prop} (h : K (.bool true) []) : C24 [.agg [.sl true 16 .str [], .sl true 16 EvT []], .agg [.nils, .nils]] [] K := .inr ⟨_, _, rfl, .inr ⟨_, _, rfl, .inl ⟨rfl, .inl ⟨rfl, by simpa using h⟩⟩⟩⟩
theorem use24 {n1 n2 : List ByteArray} {c1 c2 : List EvT.den} {K : SV → List SB → Prop} (h : K (.bool (decide (n1 = n2) && decide (c1 = c2))) []) : C24 [.agg [.sl true 16 .str n1, .sl true 16 EvT c1], .agg [.sl true 16 .str n2, .sl true 16 EvT c2]] [] K := .inr ⟨_, _, rfl, .inr ⟨_, _, rfl, .inr ⟨_, _, rfl, .inr ⟨_, _, rfl, h⟩⟩⟩⟩
def C9 : Contract := fun args hp K => match args, hp with
 | [.str s], [] => K (.bool true) []
 | _, _ => False
theorem s9 : Sound Tryz.prog 9 C9 := by
 refine sound_of_okF ok9 (.cons s4 (callable_of_okF ok4) (.cons s11 (callable_of_okF ok11) (.cons s23 (callable_of_okF ok23) (.cons s25 (callable_of_okF ok25) (.cons s24 (callable_of_okF ok24) .nil))))) ?_
 intro args hp K h
 unfold C9 at h
 split at h
 ·rename_i s
  refine ⟨by simp, [], ?_⟩
  simp (maxSteps:=9^9) only [a9, r9, C4, go_sem, Int.reduceLT, Int.reduceLE, Int.reduceEq, Int.reduceNe, Int.reduceAdd, Int.reduceSub, Int.reduceMul, Int.reduceToNat, Int.reduceNeg, Nat.reduceEqDiff, Nat.reduceLeDiff, Nat.reduceSub, Nat.reduceMul, Nat.reduceLT, Nat.reduceBEq, Nat.reduceAdd]
  rcases Nat.lt_or_ge 20000 s.size with hs | hs
  ·refine use11 (fun _ => ?_) (fun h' => absurd h' (by omega))
   simp (maxSteps:=9^9) only [go_sem, Int.reduceLT, Int.reduceLE, Int.reduceEq, Int.reduceNe, Int.reduceAdd, Int.reduceSub, Int.reduceMul, Int.reduceToNat, Int.reduceNeg, Nat.reduceEqDiff, Nat.reduceLeDiff, Nat.reduceSub, Nat.reduceMul, Nat.reduceLT, Nat.reduceBEq, Nat.reduceAdd]
   refine use23 (fun _ => ?_) (fun h' => absurd h' (by omega))
   simp (maxSteps:=9^9) only [go_sem, Int.reduceLT, Int.reduceLE, Int.reduceEq, Int.reduceNe, Int.reduceAdd, Int.reduceSub, Int.reduceMul, Int.reduceToNat, Int.reduceNeg, Nat.reduceEqDiff, Nat.reduceLeDiff, Nat.reduceSub, Nat.reduceMul, Nat.reduceLT, Nat.reduceBEq, Nat.reduceAdd]
   refine use25n ?_
   simp (maxSteps:=9^9) only [go_sem, Int.reduceLT, Int.reduceLE, Int.reduceEq, Int.reduceNe, Int.reduceAdd, Int.reduceSub, Int.reduceMul, Int.reduceToNat, Int.reduceNeg, Nat.reduceEqDiff, Nat.reduceLeDiff, Nat.reduceSub, Nat.reduceMul, Nat.reduceLT, Nat.reduceBEq, Nat.reduceAdd]
   refine use24n ?_
   simp (maxSteps:=9^9) only [go_sem, Int.reduceLT, Int.reduceLE, Int.reduceEq, Int.reduceNe, Int.reduceAdd, Int.reduceSub, Int.reduceMul, Int.reduceToNat, Int.reduceNeg, Nat.reduceEqDiff, Nat.reduceLeDiff, Nat.reduceSub, Nat.reduceMul, Nat.reduceLT, Nat.reduceBEq, Nat.reduceAdd]
   exact h
  ·refine use11 (fun h' => absurd h' (by omega)) (fun _ => ?_)
   cases hp : parseGo (linesL s.data.toList) 1 [] [] false with
   | bad i =>
    rw [pOut_bad]
    simp (maxSteps:=9^9) only [go_sem, Int.reduceLT, Int.reduceLE, Int.reduceEq, Int.reduceNe, Int.reduceAdd, Int.reduceSub, Int.reduceMul, Int.reduceToNat, Int.reduceNeg, Nat.reduceEqDiff, Nat.reduceLeDiff, Nat.reduceSub, Nat.reduceMul, Nat.reduceLT, Nat.reduceBEq, Nat.reduceAdd]
    refine use23 (fun h' => absurd h' (by omega)) (fun _ => ?_)
    rw [hp, pOut_bad]
    simp (maxSteps:=9^9) only [go_sem, Int.reduceLT, Int.reduceLE, Int.reduceEq, Int.reduceNe, Int.reduceAdd, Int.reduceSub, Int.reduceMul, Int.reduceToNat, Int.reduceNeg, Nat.reduceEqDiff, Nat.reduceLeDiff, Nat.reduceSub, Nat.reduceMul, Nat.reduceLT, Nat.reduceBEq, Nat.reduceAdd]
    refine use25n ?_
    simp (maxSteps:=9^9) only [go_sem, Int.reduceLT, Int.reduceLE, Int.reduceEq, Int.reduceNe, Int.reduceAdd, Int.reduceSub, Int.reduceMul, Int.reduceToNat, Int.reduceNeg, Nat.reduceEqDiff, Nat.reduceLeDiff, Nat.reduceSub, Nat.reduceMul, Nat.reduceLT, Nat.reduceBEq, Nat.reduceAdd]
    refine use24n ?_
    simp (maxSteps:=9^9) only [go_sem, Int.reduceLT, Int.reduceLE, Int.reduceEq, Int.reduceNe, Int.reduceAdd, Int.reduceSub, Int.reduceMul, Int.reduceToNat, Int.reduceNeg, Nat.reduceEqDiff, Nat.reduceLeDiff, Nat.reduceSub, Nat.reduceMul, Nat.reduceLT, Nat.reduceBEq, Nat.reduceAdd]
    exact h
   | fin ns cs late =>
    rw [pOut_fin]
    split
    ·rename_i hc
     simp (maxSteps:=9^9) only [go_sem, Int.reduceLT, Int.reduceLE, Int.reduceEq, Int.reduceNe, Int.reduceAdd, Int.reduceSub, Int.reduceMul, Int.reduceToNat, Int.reduceNeg, Nat.reduceEqDiff, Nat.reduceLeDiff, Nat.reduceSub, Nat.reduceMul, Nat.reduceLT, Nat.reduceBEq, Nat.reduceAdd]
     refine use23 (fun h' => absurd h' (by omega)) (fun _ => ?_)
     rw [hp, pOut_fin, if_pos hc]
     simp (maxSteps:=9^9) only [go_sem, Int.reduceLT, Int.reduceLE, Int.reduceEq, Int.reduceNe, Int.reduceAdd, Int.reduceSub, Int.reduceMul, Int.reduceToNat, Int.reduceNeg, Nat.reduceEqDiff, Nat.reduceLeDiff, Nat.reduceSub, Nat.reduceMul, Nat.reduceLT, Nat.reduceBEq, Nat.reduceAdd]
     refine use25n ?_
     simp (maxSteps:=9^9) only [go_sem, Int.reduceLT, Int.reduceLE, Int.reduceEq, Int.reduceNe, Int.reduceAdd, Int.reduceSub, Int.reduceMul, Int.reduceToNat, Int.reduceNeg, Nat.reduceEqDiff, Nat.reduceLeDiff, Nat.reduceSub, Nat.reduceMul, Nat.reduceLT, Nat.reduceBEq, Nat.reduceAdd]
     refine use24n ?_
     simp (maxSteps:=9^9) only [go_sem, Int.reduceLT, Int.reduceLE, Int.reduceEq, Int.reduceNe, Int.reduceAdd, Int.reduceSub, Int.reduceMul, Int.reduceToNat, Int.reduceNeg, Nat.reduceEqDiff, Nat.reduceLeDiff, Nat.reduceSub, Nat.reduceMul, Nat.reduceLT, Nat.reduceBEq, Nat.reduceAdd]
     exact h
    ·rename_i hc
     simp (maxSteps:=9^9) only [go_sem, Int.reduceLT, Int.reduceLE, Int.reduceEq, Int.reduceNe, Int.reduceAdd, Int.reduceSub, Int.reduceMul, Int.reduceToNat, Int.reduceNeg, Nat.reduceEqDiff, Nat.reduceLeDiff, Nat.reduceSub, Nat.reduceMul, Nat.reduceLT, Nat.reduceBEq, Nat.reduceAdd]
     refine use23 (fun h' => absurd h' (by omega)) (fun _ => ?_)
     rw [hp, pOut_fin, if_neg hc]
     simp (maxSteps:=9^9) only [go_sem, Int.reduceLT, Int.reduceLE, Int.reduceEq, Int.reduceNe, Int.reduceAdd, Int.reduceSub, Int.reduceMul, Int.reduceToNat, Int.reduceNeg, Nat.reduceEqDiff, Nat.reduceLeDiff, Nat.reduceSub, Nat.reduceMul, Nat.reduceLT, Nat.reduceBEq, Nat.reduceAdd]
     have hf : formP ns cs = true := by
      cases hfp : formP ns cs with
      | true => rfl
      | false => exact absurd (.inr hfp) hc
     have hf2 := (formP_iff.1 hf).1
     refine use25 (by omega) (by omega) ?_
     simp (maxSteps:=9^9) only [go_sem, Int.reduceLT, Int.reduceLE, Int.reduceEq, Int.reduceNe, Int.reduceAdd, Int.reduceSub, Int.reduceMul, Int.reduceToNat, Int.reduceNeg, Nat.reduceEqDiff, Nat.reduceLeDiff, Nat.reduceSub, Nat.reduceMul, Nat.reduceLT, Nat.reduceBEq, Nat.reduceAdd]
     refine use24 ?_
     simp (maxSteps:=9^9) only [go_sem, Int.reduceLT, Int.reduceLE, Int.reduceEq, Int.reduceNe, Int.reduceAdd, Int.reduceSub, Int.reduceMul, Int.reduceToNat, Int.reduceNeg, Nat.reduceEqDiff, Nat.reduceLeDiff, Nat.reduceSub, Nat.reduceMul, Nat.reduceLT, Nat.reduceBEq, Nat.reduceAdd]
     exact h
 ·exact h.elim
end Go.V
namespace Go.V
open Go.Proofs
set_option maxRecDepth 100000
set_option maxHeartbeats 8000000
set_option linter.unusedSimpArgs false
set_option linter.unnecessarySimpa false
set_option linter.unusedVariables false
theorem rdL_in {w : World} {F : Nat → Prop} {k k' : IntKind} : ∀ (xs : List (Int × Int)) (cs : List Value), rdL (rd w F (.pair (.int k) (.int k'))) xs cs → ∀ x ∈ xs, inR k x.1 ∧ inR k' x.2
 | [], _, _, x, hx => by cases hx
 | y :: ys, cs, h, x, hx => by
  obtain ⟨c1, c2, rfl, h1, h2⟩ := h
  rcases List.mem_cons.1 hx with rfl | hx'
  ·obtain ⟨d1, d2, _, a, b⟩ := h1
   exact ⟨a.2, b.2⟩
  ·exact rdL_in ys c2 h2 x hx'
theorem slp_in {E : En} {p : Bool} {eb : Nat} {k k' : IntKind} {xs : List (Int × Int)} {v : Value} (h : den E (.sl p eb (.pair (.int k) (.int k')) xs) v) : ∀ x ∈ xs, inR k x.1 ∧ inR k' x.2 := by
 simp only [den, slv] at h
 rcases h with ⟨rfl, _⟩ | ⟨_, _, _, _, _, _, cs, _, _, _, _, _, _, _, h⟩
 ·intro x hx; cases hx
 ·exact rdL_in xs cs h
theorem agg2_in {E : En} {x : SV} {p : Bool} {xs : List EvT.den} {v : Value} (hx : x.isArr = false) (h : den E (.agg [x, .sl p 16 EvT xs]) v) : ∀ x ∈ xs, inR .i64 x.2 := by
 simp only [den] at h
 obtain ⟨cs, rfl, h⟩ := h
 rw [denC_cons hx] at h
 obtain ⟨v1, c2, e1, d1, h⟩ := h
 rw [denC_cons (by rfl)] at h
 obtain ⟨v2, c3, e2, d2, h⟩ := h
 exact fun x hx => (slp_in d2 x hx).2
theorem use14 {s : ByteArray} {K : SV → List SB → Prop} (hs : s.size ≤ 100000) (h : K (.str (hexB s)) []) : C14 [.str s] [] K := ⟨hs, h⟩
theorem use16 {n : Int} {K : SV → List SB → Prop} (hn : inR .i64 n) (h : K (.str (itoaB n)) []) : C16 [.int .i64 n, .int .i64 10] [] K := by
 have hmx := maxLen_val
 have := itoa_len hn
 exact ⟨by unfold itoaB; rw [bsOf_size]; omega, h⟩
theorem use15x {op : Int} {K : SV → List SB → Prop} (hop : 0 ≤ op ∧ op < 24) (h : K (.tup [.str (wordB op.toNat), .int .i64 (opK op), .bool true]) []) : C15 [.int .i64 op] [] K := ⟨fun h' => absurd hop h', fun _ => h⟩
theorem elt_mem {t : Ty} {l : List t.den} {i : Nat} (h : i < l.length) : elt t l i ∈ l := List.mem_of_getElem? (elt_get h)
theorem key_size {s : ByteArray} (h : keyOk s = true) : s.size ≤ 40 := by
 simp only [keyOk, Bool.and_eq_true, decide_eq_true_eq] at h
 exact h.2
theorem ins_in {n c : Nat} {x : Int × Int} (h : insOk n c x = true) : (0 ≤ x.1 ∧ x.1 < 24) ∧ x.1.toNat < 24 := by
 simp only [insOk, Bool.and_eq_true, decide_eq_true_eq] at h
 have h2 : (0 : Int) ≤ x.1 ∧ x.1 < (24 : Int) := h.1
 exact ⟨h2, by omega⟩
theorem bS_row {l m : List UInt8} (h : l = m) (hm : m ≠ []) : bS l = [.struct [.ptr 0 0, .own 1], .row true 1 .byte m] := by
 subst h
 cases l with
 | nil => exact absurd rfl hm
 | cons x r => rfl
theorem bs_app (a b : ByteArray) : (a ++ b).data.toList = a.data.toList ++ b.data.toList := by
 rw [ByteArray.data_append, Array.toList_append]
theorem nm_bytes {n u v : ByteArray} (hu : u = ⟨#[110, 97, 109, 101, 32]⟩ ++ hexB n) (hv : v = u ++ ⟨#[10]⟩) : v.data.toList = nmL n := by
 rw [hv, hu, bs_app, bs_app, List.append_assoc]
 rfl
theorem ln_bytes {n : Int} {u : ByteArray} (hu : u = ⟨#[32]⟩ ++ itoaB n) : u.data.toList = 32 :: Lib.itoa n := by
 rw [hu, bs_app]
 rfl
theorem hexB_size (n : ByteArray) : (hexB n).size = 2 * n.size := by
 unfold hexB
 rw [bsOf_size, hexL_len, size_L]
def bS1 (l : List UInt8) : List SB := match l with
 | [] => [.struct [.nilp, .nils]]
 | x :: r => [.struct [.ptr 1 0, .own 2], .row true 1 .byte (x :: r)]
theorem bS1_nil : bS1 [] = [.struct [.nilp, .nils]] := rfl
theorem bS1_cons {x : UInt8} {r : List UInt8} : bS1 (x :: r) = [.struct [.ptr 1 0, .own 2], .row true 1 .byte (x :: r)] := rfl
def C6a : Contract := fun args hp K => match args, hp with
 | [.agg [.sl true 16 .str ns, .sl true 16 (.pair (.int .i64) (.int .i64)) cs]], [] => (∀ x ∈ (cs : List EvT.den), inR .i64 x.2) ∧ (formP ns cs = false → K (.tup [.str ByteArray.empty, .int .i64 1]) []) ∧ (formP ns cs = true → K (.tup [.str (bsOf (printL ns cs)), .int .i64 0]) [])
 | _, _ => False
def L6 (ns : List ByteArray) (cs : List EvT.den) : LoopAnn := cntA (fun i => ⟨[(1, .ptr 0 0), (4, .pty 1 49), (16, .sl true 16 .str ns), (17, .int .i64 ns.length), (18, .int .i64 i)], .struct [.sl true 16 .str ns, .sl true 16 EvT cs] :: bS1 (prN (ns.take i))⟩) ns.length
def M6 (ns : List ByteArray) (cs : List EvT.den) : LoopAnn := cntA (fun i => ⟨[(4, .pty 0 49), (29, .sl true 16 EvT cs), (30, .int .i64 cs.length), (31, .int .i64 i)], bS (prN ns ++ prC (cs.take i))⟩) cs.length
attribute [local irreducible] rc
theorem s6a : Sound Tryz.prog 6 C6a := by
 refine sound_of_okF ok6 (.cons s12 (callable_of_okF ok12) (.cons s14 (callable_of_okF ok14) (.cons s13 (callable_of_okF ok13) (.cons s15 (callable_of_okF ok15) (.cons s16 ⟨_, Tryz.func16, rfl, by decide⟩ (.cons s17 ⟨_, Tryz.func17, rfl, by decide⟩ .nil)))))) ?_
 intro args hp K h
 unfold C6a at h
 split at h
 ·rename_i ns cs
  obtain ⟨hr, hF, hT⟩ := h
  have hmx := maxLen_val
  refine ⟨by simp, [(1, L6 ns cs), (2, M6 ns cs)], ?_⟩
  simp (maxSteps:=9^9) only [a6, r6, go_sem, Int.reduceLT, Int.reduceLE, Int.reduceEq, Int.reduceNe, Int.reduceAdd, Int.reduceSub, Int.reduceMul, Int.reduceToNat, Int.reduceNeg, Nat.reduceEqDiff, Nat.reduceLeDiff, Nat.reduceSub, Nat.reduceMul, Nat.reduceLT, Nat.reduceBEq, Nat.reduceAdd]
  refine use12 ?_
  cases hf : formP ns cs with
  | false =>
   simp (maxSteps:=9^9) only [go_sem, Int.reduceLT, Int.reduceLE, Int.reduceEq, Int.reduceNe, Int.reduceAdd, Int.reduceSub, Int.reduceMul, Int.reduceToNat, Int.reduceNeg, Nat.reduceEqDiff, Nat.reduceLeDiff, Nat.reduceSub, Nat.reduceMul, Nat.reduceLT, Nat.reduceBEq, Nat.reduceAdd]
   exact hF hf
  | true =>
   have hT := hT hf
   obtain ⟨⟨hn1, hn2⟩, hk, hi2⟩ := formP_iff.1 hf
   simp (maxSteps:=9^9) only [go_sem, Int.reduceLT, Int.reduceLE, Int.reduceEq, Int.reduceNe, Int.reduceAdd, Int.reduceSub, Int.reduceMul, Int.reduceToNat, Int.reduceNeg, Nat.reduceEqDiff, Nat.reduceLeDiff, Nat.reduceSub, Nat.reduceMul, Nat.reduceLT, Nat.reduceBEq, Nat.reduceAdd]
   rintro _ _ m rfl
   refine loop_intro (A := L6 ns cs) (0 : Nat) ?_ (Nat.zero_le _) ?_
   ·simp (maxSteps:=9^9) only [go_sem, Int.reduceLT, Int.reduceLE, Int.reduceEq, Int.reduceNe, Int.reduceAdd, Int.reduceSub, Int.reduceMul, Int.reduceToNat, Int.reduceNeg, Nat.reduceEqDiff, Nat.reduceLeDiff, Nat.reduceSub, Nat.reduceMul, Nat.reduceLT, Nat.reduceBEq, Nat.reduceAdd]
    rfl
   ·intro (i : Nat) (hi : i ≤ ns.length)
    rcases Nat.eq_zero_or_pos i with rfl | hpos
    ·unfold L6
     simp (maxSteps:=9^9) only [cntA_I, List.take_zero, prN_nil, bS1_nil, go_sem, Int.reduceLT, Int.reduceLE, Int.reduceEq, Int.reduceNe, Int.reduceAdd, Int.reduceSub, Int.reduceMul, Int.reduceToNat, Int.reduceNeg, Nat.reduceEqDiff, Nat.reduceLeDiff, Nat.reduceSub, Nat.reduceMul, Nat.reduceLT, Nat.reduceBEq, Nat.reduceAdd]
     intro c hc
     refine swd hc (fun h0 => ?_) (fun h0 => ?_)
     ·have h0 : 0 < ns.length := by omega
      refine nd_intro (by omega) ?_
      have hk0 := List.all_eq_true.1 hk (elt .str ns 0) (elt_mem (t := .str) h0)
      have hkz := key_size hk0
      have hhz := hexB_size (elt .str ns 0)
      refine use14 (by omega) ?_
      simp (maxSteps:=9^9) only [C13, go_sem, Int.reduceLT, Int.reduceLE, Int.reduceEq, Int.reduceNe, Int.reduceAdd, Int.reduceSub, Int.reduceMul, Int.reduceToNat, Int.reduceNeg, Nat.reduceEqDiff, Nat.reduceLeDiff, Nat.reduceSub, Nat.reduceMul, Nat.reduceLT, Nat.reduceBEq, Nat.reduceAdd]
      refine ⟨by show 5 + _ ≤ _; omega, ?_⟩
      intro u hu
      have huz : u.size = 5 + (hexB (elt .str ns 0)).size := by rw [hu, ByteArray.size_append]; rfl
      refine ⟨by show _ + 1 ≤ _; omega, ?_⟩
      intro u2 hu2
      have hb := nm_bytes hu hu2
      have hn := nmL_len hk0
      have huz2 := size_L u2
      rw [hb] at huz2
      refine ⟨by omega, ?_⟩
      rintro _ _ m1 hm1
      rw [w64 (by omega)] at hm1
      refine cntA_next h0 ?_
      rw [hm1, hb]
      have e5 := prN_next h0
      rw [List.take_zero, prN_nil, List.nil_append] at e5
      rw [e5]
      rfl
     ·have hlast : ns = [] := List.eq_nil_of_length_eq_zero (by omega)
      rintro _ _ _ rfl
      refine loop_intro (A := M6 ns cs) (0 : Nat) ?_ (Nat.zero_le _) ?_
      ·simp (maxSteps:=9^9) only [go_sem, Int.reduceLT, Int.reduceLE, Int.reduceEq, Int.reduceNe, Int.reduceAdd, Int.reduceSub, Int.reduceMul, Int.reduceToNat, Int.reduceNeg, Nat.reduceEqDiff, Nat.reduceLeDiff, Nat.reduceSub, Nat.reduceMul, Nat.reduceLT, Nat.reduceBEq, Nat.reduceAdd]
       rw [hlast]
       rfl
      ·intro (j : Nat) (hj : j ≤ cs.length)
       have hlc : (prN ns ++ prC (cs.take j)).length ≤ 9000 := by
        have h1 := prN_len hk
        have h2 := prC_len (n := ns.length) (c := cs.length) (cs := cs.take j) (List.all_eq_true.2 fun x hx => List.all_eq_true.1 hi2 x (List.mem_of_mem_take hx)) (fun x hx => hr x (List.mem_of_mem_take hx))
        rw [List.length_take] at h2
        rw [List.length_append]
        omega
       cases hp : prN ns ++ prC (cs.take j) with
       | nil =>
        unfold M6
        simp (maxSteps:=9^9) only [cntA_I, hp, bS_nil, C17, go_sem, Int.reduceLT, Int.reduceLE, Int.reduceEq, Int.reduceNe, Int.reduceAdd, Int.reduceSub, Int.reduceMul, Int.reduceToNat, Int.reduceNeg, Nat.reduceEqDiff, Nat.reduceLeDiff, Nat.reduceSub, Nat.reduceMul, Nat.reduceLT, Nat.reduceBEq, Nat.reduceAdd]
        intro c hc
        refine swd hc (fun h0 => ?_) (fun h0 => ?_)
        ·have h0 : j < cs.length := by omega
         refine nd_intro (by omega) ?_
         obtain ⟨hop, hop2⟩ := ins_in (x := elt EvT cs j) (List.all_eq_true.1 hi2 _ (elt_mem (t := EvT) h0))
         have hr0 := hr _ (elt_mem (t := EvT) h0)
         have hwz : (wordB (elt EvT cs j).1.toNat).size ≤ 10 := by rw [size_L]; exact word_len _ hop2
         refine use15x hop ?_
         simp (maxSteps:=9^9) only [C13, go_sem, Int.reduceLT, Int.reduceLE, Int.reduceEq, Int.reduceNe, Int.reduceAdd, Int.reduceSub, Int.reduceMul, Int.reduceToNat, Int.reduceNeg, Nat.reduceEqDiff, Nat.reduceLeDiff, Nat.reduceSub, Nat.reduceMul, Nat.reduceLT, Nat.reduceBEq, Nat.reduceAdd]
         have e5 := prC_next h0
         have e6 : prN ns ++ prC (cs.take (j + 1)) = [] ++ lnL (elt EvT cs j) := by rw [e5, ← List.append_assoc, hp]
         have hwL : (wordB (elt EvT cs j).1.toNat).data.toList.length ≤ 10 := by rw [← size_L]; exact hwz
         refine ⟨by omega, ?_⟩
         intro c1 hc1
         refine swn hc1 (fun h1 => ?_) (fun h1 => ?_)
         ·refine use16 hr0 ?_
          simp (maxSteps:=9^9) only [C13, go_sem, Int.reduceLT, Int.reduceLE, Int.reduceEq, Int.reduceNe, Int.reduceAdd, Int.reduceSub, Int.reduceMul, Int.reduceToNat, Int.reduceNeg, Nat.reduceEqDiff, Nat.reduceLeDiff, Nat.reduceSub, Nat.reduceMul, Nat.reduceLT, Nat.reduceBEq, Nat.reduceAdd]
          have hil := itoa_len hr0
          have hiz : (itoaB (elt EvT cs j).2).size = (Lib.itoa (elt EvT cs j).2).length := bsOf_size _
          refine ⟨by show 1 + _ ≤ _; omega, ?_⟩
          intro u hu
          have hub := ln_bytes hu
          have huz := size_L u
          rw [hub, List.length_cons] at huz
          refine ⟨⟨by (try simp only [List.length_append]); omega, by omega⟩, ⟨by simp only [List.length_append, ← size_L]; omega, by show 1 ≤ _; omega⟩, ?_⟩
          rintro _ _ m1 hm1
          rw [w64 (by omega)] at hm1
          refine cntA_next h0 ?_
          rw [hm1, hub]
          have e7 : argL (elt EvT cs j) = 32 :: Lib.itoa (elt EvT cs j).2 := if_neg h1
          show _ = SS.mk _ (bS (prN ns ++ prC (cs.take (j + 1))))
          rw [bS_row (m := (wordB (elt EvT cs j).1.toNat).data.toList ++ (32 :: Lib.itoa (elt EvT cs j).2) ++ [10]) (by rw [e6]; unfold lnL; rw [e7]; unfold wordL; simp only [List.append_assoc, List.cons_append, List.nil_append]) (by simp)]
          rfl
         ·refine ⟨⟨by (try simp only [List.length_append]); omega, by show 1 ≤ _; omega⟩, ?_⟩
          rintro _ _ m1 hm1
          rw [w64 (by omega)] at hm1
          refine cntA_next h0 ?_
          rw [hm1]
          have e7 : argL (elt EvT cs j) = [] := if_pos h1
          show _ = SS.mk _ (bS (prN ns ++ prC (cs.take (j + 1))))
          rw [bS_row (m := (wordB (elt EvT cs j).1.toNat).data.toList ++ [10]) (by rw [e6]; unfold lnL; rw [e7]; unfold wordL; simp only [List.append_assoc, List.cons_append, List.nil_append]) (by simp)]
          rfl
        ·have e8 : prN ns ++ prC cs = [] := by rw [← hp, List.take_of_length_le (by omega)]
         unfold printL at hT
         rw [e8] at hT
         exact hT
       | cons x r =>
        rw [hp, List.length_cons] at hlc
        unfold M6
        simp (maxSteps:=9^9) only [cntA_I, hp, bS_cons, C17, go_sem, Int.reduceLT, Int.reduceLE, Int.reduceEq, Int.reduceNe, Int.reduceAdd, Int.reduceSub, Int.reduceMul, Int.reduceToNat, Int.reduceNeg, Nat.reduceEqDiff, Nat.reduceLeDiff, Nat.reduceSub, Nat.reduceMul, Nat.reduceLT, Nat.reduceBEq, Nat.reduceAdd]
        intro c hc
        refine swd hc (fun h0 => ?_) (fun h0 => ?_)
        ·have h0 : j < cs.length := by omega
         refine nd_intro (by omega) ?_
         obtain ⟨hop, hop2⟩ := ins_in (x := elt EvT cs j) (List.all_eq_true.1 hi2 _ (elt_mem (t := EvT) h0))
         have hr0 := hr _ (elt_mem (t := EvT) h0)
         have hwz : (wordB (elt EvT cs j).1.toNat).size ≤ 10 := by rw [size_L]; exact word_len _ hop2
         refine use15x hop ?_
         simp (maxSteps:=9^9) only [C13, go_sem, Int.reduceLT, Int.reduceLE, Int.reduceEq, Int.reduceNe, Int.reduceAdd, Int.reduceSub, Int.reduceMul, Int.reduceToNat, Int.reduceNeg, Nat.reduceEqDiff, Nat.reduceLeDiff, Nat.reduceSub, Nat.reduceMul, Nat.reduceLT, Nat.reduceBEq, Nat.reduceAdd]
         have e5 := prC_next h0
         have e6 : prN ns ++ prC (cs.take (j + 1)) = (x :: r) ++ lnL (elt EvT cs j) := by rw [e5, ← List.append_assoc, hp]
         have hwL : (wordB (elt EvT cs j).1.toNat).data.toList.length ≤ 10 := by rw [← size_L]; exact hwz
         refine ⟨⟨by omega, by omega⟩, ?_⟩
         intro c1 hc1
         refine swn hc1 (fun h1 => ?_) (fun h1 => ?_)
         ·refine use16 hr0 ?_
          simp (maxSteps:=9^9) only [C13, go_sem, Int.reduceLT, Int.reduceLE, Int.reduceEq, Int.reduceNe, Int.reduceAdd, Int.reduceSub, Int.reduceMul, Int.reduceToNat, Int.reduceNeg, Nat.reduceEqDiff, Nat.reduceLeDiff, Nat.reduceSub, Nat.reduceMul, Nat.reduceLT, Nat.reduceBEq, Nat.reduceAdd]
          have hil := itoa_len hr0
          have hiz : (itoaB (elt EvT cs j).2).size = (Lib.itoa (elt EvT cs j).2).length := bsOf_size _
          refine ⟨by show 1 + _ ≤ _; omega, ?_⟩
          intro u hu
          have hub := ln_bytes hu
          have huz := size_L u
          rw [hub, List.length_cons] at huz
          refine ⟨⟨by (try simp only [List.length_append]); omega, by omega⟩, ⟨by simp only [List.length_append, ← size_L]; omega, by show 1 ≤ _; omega⟩, ?_⟩
          rintro _ _ m1 hm1
          rw [w64 (by omega)] at hm1
          refine cntA_next h0 ?_
          rw [hm1, hub]
          have e7 : argL (elt EvT cs j) = 32 :: Lib.itoa (elt EvT cs j).2 := if_neg h1
          show _ = SS.mk _ (bS (prN ns ++ prC (cs.take (j + 1))))
          rw [bS_row (m := x :: (r ++ (wordB (elt EvT cs j).1.toNat).data.toList ++ (32 :: Lib.itoa (elt EvT cs j).2) ++ [10])) (by rw [e6]; unfold lnL; rw [e7]; unfold wordL; simp only [List.append_assoc, List.cons_append, List.nil_append]) (by simp)]
          rfl
         ·refine ⟨⟨by (try simp only [List.length_append]); omega, by show 1 ≤ _; omega⟩, ?_⟩
          rintro _ _ m1 hm1
          rw [w64 (by omega)] at hm1
          refine cntA_next h0 ?_
          rw [hm1]
          have e7 : argL (elt EvT cs j) = [] := if_pos h1
          show _ = SS.mk _ (bS (prN ns ++ prC (cs.take (j + 1))))
          rw [bS_row (m := x :: (r ++ (wordB (elt EvT cs j).1.toNat).data.toList ++ [10])) (by rw [e6]; unfold lnL; rw [e7]; unfold wordL; simp only [List.append_assoc, List.cons_append, List.nil_append]) (by simp)]
          rfl
        ·have e8 : prN ns ++ prC cs = x :: r := by rw [← hp, List.take_of_length_le (by omega)]
         unfold printL at hT
         rw [e8] at hT
         exact ⟨⟨by simp, by omega⟩, hT⟩
    ·obtain ⟨x, r, e⟩ : ∃ x r, prN (ns.take i) = x :: r := by
      obtain ⟨j, rfl⟩ : ∃ j, i = j + 1 := ⟨i - 1, by omega⟩
      rw [prN_next (by omega)]
      cases prN (ns.take j) with
      | nil => exact ⟨_, _, rfl⟩
      | cons x r => exact ⟨x, _, rfl⟩
     have hlen : (x :: r).length ≤ 9000 := by
      rw [← e]
      have h1 := prN_len (ns := ns.take i) (List.all_eq_true.2 fun x hx => List.all_eq_true.1 hk x (List.mem_of_mem_take hx))
      rw [List.length_take] at h1
      omega
     unfold L6
     simp (maxSteps:=9^9) only [cntA_I, e, bS1_cons, go_sem, Int.reduceLT, Int.reduceLE, Int.reduceEq, Int.reduceNe, Int.reduceAdd, Int.reduceSub, Int.reduceMul, Int.reduceToNat, Int.reduceNeg, Nat.reduceEqDiff, Nat.reduceLeDiff, Nat.reduceSub, Nat.reduceMul, Nat.reduceLT, Nat.reduceBEq, Nat.reduceAdd]
     intro c hc
     refine swd hc (fun h0 => ?_) (fun h0 => ?_)
     ·have h0 : i < ns.length := by omega
      refine nd_intro (by omega) ?_
      have hk0 := List.all_eq_true.1 hk (elt .str ns i) (elt_mem (t := .str) h0)
      have hkz := key_size hk0
      have hhz := hexB_size (elt .str ns i)
      refine use14 (by omega) ?_
      simp (maxSteps:=9^9) only [C13, go_sem, Int.reduceLT, Int.reduceLE, Int.reduceEq, Int.reduceNe, Int.reduceAdd, Int.reduceSub, Int.reduceMul, Int.reduceToNat, Int.reduceNeg, Nat.reduceEqDiff, Nat.reduceLeDiff, Nat.reduceSub, Nat.reduceMul, Nat.reduceLT, Nat.reduceBEq, Nat.reduceAdd]
      refine ⟨by show 5 + _ ≤ _; omega, ?_⟩
      intro u hu
      have huz : u.size = 5 + (hexB (elt .str ns i)).size := by rw [hu, ByteArray.size_append]; rfl
      refine ⟨by show _ + 1 ≤ _; omega, ?_⟩
      intro u2 hu2
      have hb := nm_bytes hu hu2
      have hn := nmL_len hk0
      have huz2 := size_L u2
      rw [hb] at huz2
      refine ⟨by simp only [List.length_cons] at hlen; omega, ?_⟩
      rintro _ _ m1 hm1
      rw [w64 (by omega)] at hm1
      refine cntA_next h0 ?_
      rw [hm1, hb]
      have e5 := prN_next h0
      rw [e] at e5
      rw [e5]
      rfl
     ·have hlast : ns.take i = ns := List.take_of_length_le (by omega)
      rintro _ _ _ rfl
      refine loop_intro (A := M6 ns cs) (0 : Nat) ?_ (Nat.zero_le _) ?_
      ·simp (maxSteps:=9^9) only [go_sem, Int.reduceLT, Int.reduceLE, Int.reduceEq, Int.reduceNe, Int.reduceAdd, Int.reduceSub, Int.reduceMul, Int.reduceToNat, Int.reduceNeg, Nat.reduceEqDiff, Nat.reduceLeDiff, Nat.reduceSub, Nat.reduceMul, Nat.reduceLT, Nat.reduceBEq, Nat.reduceAdd]
       have e9 : prN ns ++ prC (cs.take 0) = x :: r := by rw [hlast] at e; rw [← e, List.take_zero, prC_nil, List.append_nil]
       show _ = SS.mk _ (bS (prN ns ++ prC (cs.take 0)))
       rw [e9]
       rfl
      ·intro (j : Nat) (hj : j ≤ cs.length)
       have hlc : (prN ns ++ prC (cs.take j)).length ≤ 9000 := by
        have h1 := prN_len hk
        have h2 := prC_len (n := ns.length) (c := cs.length) (cs := cs.take j) (List.all_eq_true.2 fun x hx => List.all_eq_true.1 hi2 x (List.mem_of_mem_take hx)) (fun x hx => hr x (List.mem_of_mem_take hx))
        rw [List.length_take] at h2
        rw [List.length_append]
        omega
       cases hp : prN ns ++ prC (cs.take j) with
       | nil =>
        unfold M6
        simp (maxSteps:=9^9) only [cntA_I, hp, bS_nil, C17, go_sem, Int.reduceLT, Int.reduceLE, Int.reduceEq, Int.reduceNe, Int.reduceAdd, Int.reduceSub, Int.reduceMul, Int.reduceToNat, Int.reduceNeg, Nat.reduceEqDiff, Nat.reduceLeDiff, Nat.reduceSub, Nat.reduceMul, Nat.reduceLT, Nat.reduceBEq, Nat.reduceAdd]
        intro c hc
        refine swd hc (fun h0 => ?_) (fun h0 => ?_)
        ·have h0 : j < cs.length := by omega
         refine nd_intro (by omega) ?_
         obtain ⟨hop, hop2⟩ := ins_in (x := elt EvT cs j) (List.all_eq_true.1 hi2 _ (elt_mem (t := EvT) h0))
         have hr0 := hr _ (elt_mem (t := EvT) h0)
         have hwz : (wordB (elt EvT cs j).1.toNat).size ≤ 10 := by rw [size_L]; exact word_len _ hop2
         refine use15x hop ?_
         simp (maxSteps:=9^9) only [C13, go_sem, Int.reduceLT, Int.reduceLE, Int.reduceEq, Int.reduceNe, Int.reduceAdd, Int.reduceSub, Int.reduceMul, Int.reduceToNat, Int.reduceNeg, Nat.reduceEqDiff, Nat.reduceLeDiff, Nat.reduceSub, Nat.reduceMul, Nat.reduceLT, Nat.reduceBEq, Nat.reduceAdd]
         have e5 := prC_next h0
         have e6 : prN ns ++ prC (cs.take (j + 1)) = [] ++ lnL (elt EvT cs j) := by rw [e5, ← List.append_assoc, hp]
         have hwL : (wordB (elt EvT cs j).1.toNat).data.toList.length ≤ 10 := by rw [← size_L]; exact hwz
         refine ⟨by omega, ?_⟩
         intro c1 hc1
         refine swn hc1 (fun h1 => ?_) (fun h1 => ?_)
         ·refine use16 hr0 ?_
          simp (maxSteps:=9^9) only [C13, go_sem, Int.reduceLT, Int.reduceLE, Int.reduceEq, Int.reduceNe, Int.reduceAdd, Int.reduceSub, Int.reduceMul, Int.reduceToNat, Int.reduceNeg, Nat.reduceEqDiff, Nat.reduceLeDiff, Nat.reduceSub, Nat.reduceMul, Nat.reduceLT, Nat.reduceBEq, Nat.reduceAdd]
          have hil := itoa_len hr0
          have hiz : (itoaB (elt EvT cs j).2).size = (Lib.itoa (elt EvT cs j).2).length := bsOf_size _
          refine ⟨by show 1 + _ ≤ _; omega, ?_⟩
          intro u hu
          have hub := ln_bytes hu
          have huz := size_L u
          rw [hub, List.length_cons] at huz
          refine ⟨⟨by (try simp only [List.length_append]); omega, by omega⟩, ⟨by simp only [List.length_append, ← size_L]; omega, by show 1 ≤ _; omega⟩, ?_⟩
          rintro _ _ m1 hm1
          rw [w64 (by omega)] at hm1
          refine cntA_next h0 ?_
          rw [hm1, hub]
          have e7 : argL (elt EvT cs j) = 32 :: Lib.itoa (elt EvT cs j).2 := if_neg h1
          show _ = SS.mk _ (bS (prN ns ++ prC (cs.take (j + 1))))
          rw [bS_row (m := (wordB (elt EvT cs j).1.toNat).data.toList ++ (32 :: Lib.itoa (elt EvT cs j).2) ++ [10]) (by rw [e6]; unfold lnL; rw [e7]; unfold wordL; simp only [List.append_assoc, List.cons_append, List.nil_append]) (by simp)]
          rfl
         ·refine ⟨⟨by (try simp only [List.length_append]); omega, by show 1 ≤ _; omega⟩, ?_⟩
          rintro _ _ m1 hm1
          rw [w64 (by omega)] at hm1
          refine cntA_next h0 ?_
          rw [hm1]
          have e7 : argL (elt EvT cs j) = [] := if_pos h1
          show _ = SS.mk _ (bS (prN ns ++ prC (cs.take (j + 1))))
          rw [bS_row (m := (wordB (elt EvT cs j).1.toNat).data.toList ++ [10]) (by rw [e6]; unfold lnL; rw [e7]; unfold wordL; simp only [List.append_assoc, List.cons_append, List.nil_append]) (by simp)]
          rfl
        ·have e8 : prN ns ++ prC cs = [] := by rw [← hp, List.take_of_length_le (by omega)]
         unfold printL at hT
         rw [e8] at hT
         exact hT
       | cons x r =>
        rw [hp, List.length_cons] at hlc
        unfold M6
        simp (maxSteps:=9^9) only [cntA_I, hp, bS_cons, C17, go_sem, Int.reduceLT, Int.reduceLE, Int.reduceEq, Int.reduceNe, Int.reduceAdd, Int.reduceSub, Int.reduceMul, Int.reduceToNat, Int.reduceNeg, Nat.reduceEqDiff, Nat.reduceLeDiff, Nat.reduceSub, Nat.reduceMul, Nat.reduceLT, Nat.reduceBEq, Nat.reduceAdd]
        intro c hc
        refine swd hc (fun h0 => ?_) (fun h0 => ?_)
        ·have h0 : j < cs.length := by omega
         refine nd_intro (by omega) ?_
         obtain ⟨hop, hop2⟩ := ins_in (x := elt EvT cs j) (List.all_eq_true.1 hi2 _ (elt_mem (t := EvT) h0))
         have hr0 := hr _ (elt_mem (t := EvT) h0)
         have hwz : (wordB (elt EvT cs j).1.toNat).size ≤ 10 := by rw [size_L]; exact word_len _ hop2
         refine use15x hop ?_
         simp (maxSteps:=9^9) only [C13, go_sem, Int.reduceLT, Int.reduceLE, Int.reduceEq, Int.reduceNe, Int.reduceAdd, Int.reduceSub, Int.reduceMul, Int.reduceToNat, Int.reduceNeg, Nat.reduceEqDiff, Nat.reduceLeDiff, Nat.reduceSub, Nat.reduceMul, Nat.reduceLT, Nat.reduceBEq, Nat.reduceAdd]
         have e5 := prC_next h0
         have e6 : prN ns ++ prC (cs.take (j + 1)) = (x :: r) ++ lnL (elt EvT cs j) := by rw [e5, ← List.append_assoc, hp]
         have hwL : (wordB (elt EvT cs j).1.toNat).data.toList.length ≤ 10 := by rw [← size_L]; exact hwz
         refine ⟨⟨by omega, by omega⟩, ?_⟩
         intro c1 hc1
         refine swn hc1 (fun h1 => ?_) (fun h1 => ?_)
         ·refine use16 hr0 ?_
          simp (maxSteps:=9^9) only [C13, go_sem, Int.reduceLT, Int.reduceLE, Int.reduceEq, Int.reduceNe, Int.reduceAdd, Int.reduceSub, Int.reduceMul, Int.reduceToNat, Int.reduceNeg, Nat.reduceEqDiff, Nat.reduceLeDiff, Nat.reduceSub, Nat.reduceMul, Nat.reduceLT, Nat.reduceBEq, Nat.reduceAdd]
          have hil := itoa_len hr0
          have hiz : (itoaB (elt EvT cs j).2).size = (Lib.itoa (elt EvT cs j).2).length := bsOf_size _
          refine ⟨by show 1 + _ ≤ _; omega, ?_⟩
          intro u hu
          have hub := ln_bytes hu
          have huz := size_L u
          rw [hub, List.length_cons] at huz
          refine ⟨⟨by (try simp only [List.length_append]); omega, by omega⟩, ⟨by simp only [List.length_append, ← size_L]; omega, by show 1 ≤ _; omega⟩, ?_⟩
          rintro _ _ m1 hm1
          rw [w64 (by omega)] at hm1
          refine cntA_next h0 ?_
          rw [hm1, hub]
          have e7 : argL (elt EvT cs j) = 32 :: Lib.itoa (elt EvT cs j).2 := if_neg h1
          show _ = SS.mk _ (bS (prN ns ++ prC (cs.take (j + 1))))
          rw [bS_row (m := x :: (r ++ (wordB (elt EvT cs j).1.toNat).data.toList ++ (32 :: Lib.itoa (elt EvT cs j).2) ++ [10])) (by rw [e6]; unfold lnL; rw [e7]; unfold wordL; simp only [List.append_assoc, List.cons_append, List.nil_append]) (by simp)]
          rfl
         ·refine ⟨⟨by (try simp only [List.length_append]); omega, by show 1 ≤ _; omega⟩, ?_⟩
          rintro _ _ m1 hm1
          rw [w64 (by omega)] at hm1
          refine cntA_next h0 ?_
          rw [hm1]
          have e7 : argL (elt EvT cs j) = [] := if_pos h1
          show _ = SS.mk _ (bS (prN ns ++ prC (cs.take (j + 1))))
          rw [bS_row (m := x :: (r ++ (wordB (elt EvT cs j).1.toNat).data.toList ++ [10])) (by rw [e6]; unfold lnL; rw [e7]; unfold wordL; simp only [List.append_assoc, List.cons_append, List.nil_append]) (by simp)]
          rfl
        ·have e8 : prN ns ++ prC cs = x :: r := by rw [← hp, List.take_of_length_le (by omega)]
         unfold printL at hT
         rw [e8] at hT
         exact ⟨⟨by simp, by omega⟩, hT⟩
 ·exact h.elim
end Go.V
namespace Go.V
open Go.Proofs
set_option maxRecDepth 100000
set_option maxHeartbeats 8000000
set_option linter.unusedSimpArgs false
set_option linter.unnecessarySimpa false
set_option linter.unusedVariables false
def prOut (K : SV → List SB → Prop) (ns : List ByteArray) (cs : List EvT.den) : Prop := (formP ns cs = false → K (.tup [.str ByteArray.empty, .int .i64 1]) []) ∧ (formP ns cs = true → K (.tup [.str (bsOf (printL ns cs)), .int .i64 0]) [])
def C6 : Contract := fun args hp K => match args, hp with
 | [.agg [.sl true 16 .str ns, .sl true 16 (.pair (.int .i64) (.int .i64)) cs]], [] => prOut K ns cs
 | _, _ => False
theorem s6 : Sound Tryz.prog 6 C6 := by
 intro args hp K h E vs hs hg hd
 unfold C6 at h
 split at h
 ·rename_i ns cs
  have hr : ∀ x ∈ cs, inR .i64 x.2 := by
   simp only [denL] at hd
   obtain ⟨v, r, rfl, h1, rfl⟩ := hd
   exact agg2_in rfl h1
  exact s6a [.agg [.sl true 16 .str ns, .sl true 16 EvT cs]] [] K ⟨hr, h⟩ E vs hs hg hd
 ·exact h.elim
attribute [local irreducible] rc
end Go.V
namespace Go.V
open Go.Proofs
set_option maxRecDepth 100000
set_option maxHeartbeats 8000000
set_option linter.unusedSimpArgs false
set_option linter.unnecessarySimpa false
set_option linter.unusedVariables false
attribute [local irreducible] rc
theorem use5 {ns : List ByteArray} {cs : List EvT.den} {K : SV → List SB → Prop} (h : K (.bool (fewP ns cs)) []) : C5 [.agg [.sl true 16 .str ns, .sl true 16 EvT cs]] [] K := .inr ⟨_, _, rfl, .inr ⟨_, _, rfl, h⟩⟩
theorem use7 {ns : List ByteArray} {cs : List EvT.den} {K : SV → List SB → Prop} (h1 : ns.length ≤ 100000) (h2 : cs.length ≤ 100000) (h : K (.agg [.sl true 16 .str ns, .sl true 16 EvT cs]) []) : C7 [.agg [.sl true 16 .str ns, .sl true 16 EvT cs]] [] K := .inr ⟨_, _, rfl, .inr ⟨_, _, rfl, h1, h2, h⟩⟩
theorem use6 {ns : List ByteArray} {cs : List EvT.den} {K : SV → List SB → Prop} (h1 : formP ns cs = false → K (.tup [.str ByteArray.empty, .int .i64 1]) []) (h2 : formP ns cs = true → K (.tup [.str (bsOf (printL ns cs)), .int .i64 0]) []) : C6 [.agg [.sl true 16 .str ns, .sl true 16 EvT cs]] [] K := ⟨h1, h2⟩
end Go.V
