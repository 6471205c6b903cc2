/- A part of the proof layer, or functions of the given program in it: contracts and their proofs. -/
import Derived.Test.YtaeoiobjddknbaaDoorMA71
import Derived.Test.YtaeoiobjddknbaaDoorMS2
import Derived.Test.YtaeoiobjddknbaaDoorMB7
namespace Go.V
open Go.Proofs
set_option maxRecDepth 100000
set_option maxHeartbeats 8000000
set_option linter.unusedSimpArgs false
set_option linter.unnecessarySimpa false
set_option linter.unusedVariables false
def C12 : Contract := fun args hp K => match args, hp with
 | [.agg [x, y]], [] => onL .str 16 x fun names => onL EvT 16 y fun code => names.length ≤ 100000 ∧ (code : List EvT.den).length ≤ 100000 ∧ K (.agg [.sl true 16 .str names, .sl true 16 EvT code]) []
 | _, _ => False
def L12 (x y : SV) (names : List ByteArray) (code : List EvT.den) : LoopAnn := { G := Nat, I := fun i => ⟨[(1, .ptr 0 0), (2, .ptr 1 0), (3, .ptr 4 0), (12, .int .i64 code.length), (13, .int .i64 i)], [.struct [x, y], .struct [.own 2, .own 3], .row true 16 .str [], .row true 16 EvT [], .struct [.own 5, .own 6], .row true 16 .str names, .row true 16 EvT (code.take i)]⟩, R := fun _ i => i ≤ code.length, μ := fun i => code.length - i }
theorem L12_I {x y names code} (i : Nat) : (L12 x y names code).I i = ⟨[(1, .ptr 0 0), (2, .ptr 1 0), (3, .ptr 4 0), (12, .int .i64 code.length), (13, .int .i64 i)], [.struct [x, y], .struct [.own 2, .own 3], .row true 16 .str [], .row true 16 EvT [], .struct [.own 5, .own 6], .row true 16 .str names, .row true 16 EvT (code.take i)]⟩ := rfl
theorem s12 : Sound Tryd.prog 12 C12 := by
 refine sound_of_okF ok12 .nil ?_
 intro args hp K h
 unfold C12 at h
 split at h
 ·rename_i x y
  have hmx := maxLen_val
  rcases h with ⟨rfl, ⟨rfl, hn, hc, h⟩ | ⟨q, code, rfl, hn, hc, h⟩⟩ | ⟨p, names, rfl, ⟨rfl, hn, hc, h⟩ | ⟨q, code, rfl, hn, hc, h⟩⟩
  ·refine ⟨by simp, [(1, L12 .nils .nils ([] : List ByteArray) ([] : List EvT.den))], ?_⟩
   simp (maxSteps:=9^9) only [a12, r12, go_sem, Int.reduceLT, Int.reduceLE, Int.reduceEq, Int.reduceNe, Int.reduceAdd, Int.reduceSub, Int.reduceMul, Int.reduceToNat, Int.reduceNeg, Nat.reduceEqDiff, Nat.reduceLeDiff, Nat.reduceSub, Nat.reduceMul, Nat.reduceLT, Nat.reduceBEq, Nat.reduceAdd]
   refine loop_intro (A := L12 .nils .nils ([] : List ByteArray) ([] : List EvT.den)) (0 : Nat) ?_ (Nat.zero_le _) ?_
   ·simp (maxSteps:=9^9) only [L12_I, go_sem, Int.reduceLT, Int.reduceLE, Int.reduceEq, Int.reduceNe, Int.reduceAdd, Int.reduceSub, Int.reduceMul, Int.reduceToNat, Int.reduceNeg, Nat.reduceEqDiff, Nat.reduceLeDiff, Nat.reduceSub, Nat.reduceMul, Nat.reduceLT, Nat.reduceBEq, Nat.reduceAdd]
    rfl
   ·intro (i : Nat) (hi : i ≤ ([] : List EvT.den).length)
    simp (maxSteps:=9^9) only [L12_I, go_sem, Int.reduceLT, Int.reduceLE, Int.reduceEq, Int.reduceNe, Int.reduceAdd, Int.reduceSub, Int.reduceMul, Int.reduceToNat, Int.reduceNeg, Nat.reduceEqDiff, Nat.reduceLeDiff, Nat.reduceSub, Nat.reduceMul, Nat.reduceLT, Nat.reduceBEq, Nat.reduceAdd]
    rintro c rfl
    refine sw_intro (fun hc => ?_) (fun hc => ?_) <;> simp only [decide_eq_true_eq, decide_eq_false_iff_not] at hc
    ·exact absurd hc (by omega)
    ·rw [List.take_nil]
     exact h
  ·refine ⟨by simp, [(1, L12 .nils (.sl q 16 EvT code) ([] : List ByteArray) (code : List EvT.den))], ?_⟩
   simp (maxSteps:=9^9) only [a12, r12, go_sem, Int.reduceLT, Int.reduceLE, Int.reduceEq, Int.reduceNe, Int.reduceAdd, Int.reduceSub, Int.reduceMul, Int.reduceToNat, Int.reduceNeg, Nat.reduceEqDiff, Nat.reduceLeDiff, Nat.reduceSub, Nat.reduceMul, Nat.reduceLT, Nat.reduceBEq, Nat.reduceAdd]
   rintro _ _ m rfl
   refine loop_intro (A := L12 .nils (.sl q 16 EvT code) ([] : List ByteArray) (code : List EvT.den)) (0 : Nat) ?_ (Nat.zero_le _) ?_
   ·simp (maxSteps:=9^9) only [L12_I, go_sem, Int.reduceLT, Int.reduceLE, Int.reduceEq, Int.reduceNe, Int.reduceAdd, Int.reduceSub, Int.reduceMul, Int.reduceToNat, Int.reduceNeg, Nat.reduceEqDiff, Nat.reduceLeDiff, Nat.reduceSub, Nat.reduceMul, Nat.reduceLT, Nat.reduceBEq, Nat.reduceAdd]
    rfl
   ·intro (i : Nat) (hi : i ≤ (code : List EvT.den).length)
    simp (maxSteps:=9^9) only [L12_I, go_sem, Int.reduceLT, Int.reduceLE, Int.reduceEq, Int.reduceNe, Int.reduceAdd, Int.reduceSub, Int.reduceMul, Int.reduceToNat, Int.reduceNeg, Nat.reduceEqDiff, Nat.reduceLeDiff, Nat.reduceSub, Nat.reduceMul, Nat.reduceLT, Nat.reduceBEq, Nat.reduceAdd]
    rintro c rfl
    refine sw_intro (fun hc => ?_) (fun hc => ?_) <;> simp only [decide_eq_true_eq, decide_eq_false_iff_not] at hc
    ·refine nd_intro hc ⟨fun h9 => by rw [List.length_take]; omega, fun h9 => ?_⟩
     rintro _ _ m hm
     rw [w64 (by omega)] at hm
     subst hm
     refine lpE_intro (A := L12 .nils (.sl q 16 EvT code) ([] : List ByteArray) (code : List EvT.den)) (i + 1 : Nat) ?_ (by show i + 1 ≤ code.length; omega) (by show code.length - (i + 1) < code.length - i; omega)
     have e := take_elt (t := EvT) hc
     simp (maxSteps:=9^9) only [L12_I, ← e, go_sem, Int.reduceLT, Int.reduceLE, Int.reduceEq, Int.reduceNe, Int.reduceAdd, Int.reduceSub, Int.reduceMul, Int.reduceToNat, Int.reduceNeg, Nat.reduceEqDiff, Nat.reduceLeDiff, Nat.reduceSub, Nat.reduceMul, Nat.reduceLT, Nat.reduceBEq, Nat.reduceAdd]
     rfl
    ·rw [List.take_of_length_le (by omega)]
     exact h
  ·refine ⟨by simp, [(1, L12 (.sl p 16 .str names) .nils (names : List ByteArray) ([] : List EvT.den))], ?_⟩
   simp (maxSteps:=9^9) only [a12, r12, go_sem, Int.reduceLT, Int.reduceLE, Int.reduceEq, Int.reduceNe, Int.reduceAdd, Int.reduceSub, Int.reduceMul, Int.reduceToNat, Int.reduceNeg, Nat.reduceEqDiff, Nat.reduceLeDiff, Nat.reduceSub, Nat.reduceMul, Nat.reduceLT, Nat.reduceBEq, Nat.reduceAdd]
   refine ⟨fun h9 => h9, fun hl => ?_⟩
   refine loop_intro (A := L12 (.sl p 16 .str names) .nils (names : List ByteArray) ([] : List EvT.den)) (0 : Nat) ?_ (Nat.zero_le _) ?_
   ·simp (maxSteps:=9^9) only [L12_I, go_sem, Int.reduceLT, Int.reduceLE, Int.reduceEq, Int.reduceNe, Int.reduceAdd, Int.reduceSub, Int.reduceMul, Int.reduceToNat, Int.reduceNeg, Nat.reduceEqDiff, Nat.reduceLeDiff, Nat.reduceSub, Nat.reduceMul, Nat.reduceLT, Nat.reduceBEq, Nat.reduceAdd]
    rfl
   ·intro (i : Nat) (hi : i ≤ ([] : List EvT.den).length)
    simp (maxSteps:=9^9) only [L12_I, go_sem, Int.reduceLT, Int.reduceLE, Int.reduceEq, Int.reduceNe, Int.reduceAdd, Int.reduceSub, Int.reduceMul, Int.reduceToNat, Int.reduceNeg, Nat.reduceEqDiff, Nat.reduceLeDiff, Nat.reduceSub, Nat.reduceMul, Nat.reduceLT, Nat.reduceBEq, Nat.reduceAdd]
    rintro c rfl
    refine sw_intro (fun hc => ?_) (fun hc => ?_) <;> simp only [decide_eq_true_eq, decide_eq_false_iff_not] at hc
    ·exact absurd hc (by omega)
    ·rw [List.take_nil]
     exact h
  ·refine ⟨by simp, [(1, L12 (.sl p 16 .str names) (.sl q 16 EvT code) (names : List ByteArray) (code : List EvT.den))], ?_⟩
   simp (maxSteps:=9^9) only [a12, r12, go_sem, Int.reduceLT, Int.reduceLE, Int.reduceEq, Int.reduceNe, Int.reduceAdd, Int.reduceSub, Int.reduceMul, Int.reduceToNat, Int.reduceNeg, Nat.reduceEqDiff, Nat.reduceLeDiff, Nat.reduceSub, Nat.reduceMul, Nat.reduceLT, Nat.reduceBEq, Nat.reduceAdd]
   refine ⟨fun h9 => h9, fun hl => ?_⟩
   rintro _ _ m rfl
   refine loop_intro (A := L12 (.sl p 16 .str names) (.sl q 16 EvT code) (names : List ByteArray) (code : List EvT.den)) (0 : Nat) ?_ (Nat.zero_le _) ?_
   ·simp (maxSteps:=9^9) only [L12_I, go_sem, Int.reduceLT, Int.reduceLE, Int.reduceEq, Int.reduceNe, Int.reduceAdd, Int.reduceSub, Int.reduceMul, Int.reduceToNat, Int.reduceNeg, Nat.reduceEqDiff, Nat.reduceLeDiff, Nat.reduceSub, Nat.reduceMul, Nat.reduceLT, Nat.reduceBEq, Nat.reduceAdd]
    rfl
   ·intro (i : Nat) (hi : i ≤ (code : List EvT.den).length)
    simp (maxSteps:=9^9) only [L12_I, go_sem, Int.reduceLT, Int.reduceLE, Int.reduceEq, Int.reduceNe, Int.reduceAdd, Int.reduceSub, Int.reduceMul, Int.reduceToNat, Int.reduceNeg, Nat.reduceEqDiff, Nat.reduceLeDiff, Nat.reduceSub, Nat.reduceMul, Nat.reduceLT, Nat.reduceBEq, Nat.reduceAdd]
    rintro c rfl
    refine sw_intro (fun hc => ?_) (fun hc => ?_) <;> simp only [decide_eq_true_eq, decide_eq_false_iff_not] at hc
    ·refine nd_intro hc ⟨fun h9 => by rw [List.length_take]; omega, fun h9 => ?_⟩
     rintro _ _ m hm
     rw [w64 (by omega)] at hm
     subst hm
     refine lpE_intro (A := L12 (.sl p 16 .str names) (.sl q 16 EvT code) (names : List ByteArray) (code : List EvT.den)) (i + 1 : Nat) ?_ (by show i + 1 ≤ code.length; omega) (by show code.length - (i + 1) < code.length - i; omega)
     have e := take_elt (t := EvT) hc
     simp (maxSteps:=9^9) only [L12_I, ← e, go_sem, Int.reduceLT, Int.reduceLE, Int.reduceEq, Int.reduceNe, Int.reduceAdd, Int.reduceSub, Int.reduceMul, Int.reduceToNat, Int.reduceNeg, Nat.reduceEqDiff, Nat.reduceLeDiff, Nat.reduceSub, Nat.reduceMul, Nat.reduceLT, Nat.reduceBEq, Nat.reduceAdd]
     rfl
    ·rw [List.take_of_length_le (by omega)]
     exact h
 ·exact h.elim
end Go.V
namespace Go.V
open Go.Proofs
set_option maxRecDepth 100000
set_option maxHeartbeats 8000000
set_option linter.unusedSimpArgs false
set_option linter.unnecessarySimpa false
set_option linter.unusedVariables false
theorem onL_den {t : Ty} {eb : Nat} {x : SV} {k : List t.den → Prop} (h : onL t eb x k) : ∃ p xs, k xs ∧ x.isArr = false ∧ ∀ E v, den E x v → den E (.sl p eb t xs) v := by
 rcases h with ⟨rfl, h⟩ | ⟨p, xs, rfl, h⟩
 ·refine ⟨true, [], h, rfl, fun E v hv => ?_⟩
  simp only [den] at hv ⊢
  subst hv
  exact .inl ⟨rfl, none, 0, rfl, by decide, fun _ => rfl⟩
 ·exact ⟨p, xs, h, rfl, fun E v hv => hv⟩
theorem agg_den {E : En} {x y x' y' : SV} {v : Value} (hx : x.isArr = false) (hy : y.isArr = false) (hx' : x'.isArr = false) (hy' : y'.isArr = false) (h1 : ∀ v, den E x v → den E x' v) (h2 : ∀ v, den E y v → den E y' v) (h : den E (.agg [x, y]) v) : den E (.agg [x', y']) v := by
 simp only [den] at h ⊢
 obtain ⟨cs, rfl, h⟩ := h
 refine ⟨cs, rfl, ?_⟩
 rw [denC_cons hx] at h
 obtain ⟨v1, c2, e1, d1, h⟩ := h
 rw [denC_cons hy] at h
 obtain ⟨v2, c3, e2, d2, h⟩ := h
 rw [denC_cons hx']
 refine ⟨v1, c2, e1, h1 _ d1, ?_⟩
 rw [denC_cons hy']
 exact ⟨v2, c3, e2, h2 _ d2, h⟩
theorem take_next {t : Ty} {xs ys : List t.den} {i : Nat} (h1 : i < xs.length) (h2 : i < ys.length) (h : xs.take i = ys.take i) (he : elt t xs i = elt t ys i) : xs.take (i + 1) = ys.take (i + 1) := by
 rw [← take_elt h1, ← take_elt h2, h, he]
def C11a : Contract := fun args hp K => match args, hp with
 | [.agg [.sl p1 16 .str n1, .sl p2 16 (.pair (.int .i64) (.int .i64)) c1], .agg [.sl p3 16 .str n2, .sl p4 16 (.pair (.int .i64) (.int .i64)) c2]], [] => K (.bool (decide (n1 = n2) && decide ((c1 : List EvT.den) = c2))) []
 | _, _ => False
def L11 (x y z u : SV) (n1 n2 : List ByteArray) : LoopAnn := { G := Nat, I := fun i => ⟨[(2, .ptr 0 0), (3, .ptr 1 0), (25, .int .i64 n1.length), (26, .int .i64 i)], [.struct [x, y], .struct [z, u]]⟩, R := fun _ i => i ≤ n1.length ∧ n1.take i = n2.take i, μ := fun i => n1.length - i }
def M11 (x y z u : SV) (c1 c2 : List EvT.den) : LoopAnn := { G := Nat, I := fun i => ⟨[(2, .ptr 0 0), (3, .ptr 1 0), (43, .int .i64 c1.length), (44, .int .i64 i)], [.struct [x, y], .struct [z, u]]⟩, R := fun _ i => i ≤ c1.length ∧ c1.take i = c2.take i, μ := fun i => c1.length - i }
theorem L11_I {x y z u : SV} {n1 n2 : List ByteArray} (i : Nat) : (L11 x y z u n1 n2).I i = ⟨[(2, .ptr 0 0), (3, .ptr 1 0), (25, .int .i64 n1.length), (26, .int .i64 i)], [.struct [x, y], .struct [z, u]]⟩ := rfl
theorem M11_I {x y z u : SV} {c1 c2 : List EvT.den} (i : Nat) : (M11 x y z u c1 c2).I i = ⟨[(2, .ptr 0 0), (3, .ptr 1 0), (43, .int .i64 c1.length), (44, .int .i64 i)], [.struct [x, y], .struct [z, u]]⟩ := rfl
attribute [local irreducible] rc
theorem s11a : Sound Tryd.prog 11 C11a := by
  refine sound_of_okF ok11 .nil ?_
  intro args hp K h
  unfold C11a at h
  split at h
  · rename_i p1 n1 p2 c1 p3 n2 p4 c2
    have hmx := maxLen_val
    refine ⟨by simp, [(1, L11 (.sl p1 16 .str n1) (.sl p2 16 EvT c1) (.sl p3 16 .str n2) (.sl p4 16 EvT c2) n1 n2), (2, M11 (.sl p1 16 .str n1) (.sl p2 16 EvT c1) (.sl p3 16 .str n2) (.sl p4 16 EvT c2) c1 c2)], ?_⟩
    simp (maxSteps:=9^9) only [a11, r11, go_sem, Int.reduceLT, Int.reduceLE, Int.reduceEq, Int.reduceNe, Int.reduceAdd, Int.reduceSub, Int.reduceMul, Int.reduceToNat, Int.reduceNeg, Nat.reduceEqDiff, Nat.reduceLeDiff, Nat.reduceSub, Nat.reduceMul, Nat.reduceLT, Nat.reduceBEq, Nat.reduceAdd]
    have hf1 : ¬ (n1 : List ByteArray) = n2 → K (.bool false) [] := fun hne => by
      have e : (decide ((n1 : List ByteArray) = n2) && decide ((c1 : List EvT.den) = c2)) = false := by rw [decide_eq_false hne]; rfl
      rw [← e]; exact h
    have hf2 : ¬ (c1 : List EvT.den) = c2 → K (.bool false) [] := fun hne => by
      have e : (decide ((n1 : List ByteArray) = n2) && decide ((c1 : List EvT.den) = c2)) = false := by rw [decide_eq_false hne, Bool.and_false]
      rw [← e]; exact h
    have ht : (n1 : List ByteArray) = n2 → (c1 : List EvT.den) = c2 → K (.bool true) [] := fun e1 e2 => by
      have e : (decide ((n1 : List ByteArray) = n2) && decide ((c1 : List EvT.den) = c2)) = true := by rw [decide_eq_true e1, decide_eq_true e2]; rfl
      rw [← e]; exact h
    rintro _ _ m hm _ _ m2 hm2 c3 hc3
    refine swn hc3 (fun h0 => hf1 (fun e => h0 (by rw [hm, hm2, e]))) (fun h0 => ?_)
    have hl1 : n1.length = n2.length := by omega
    rintro _ _ m3 hm3 _ _ m4 hm4 c4 hc4
    refine swn hc4 (fun h1 => hf2 (fun e => h1 (by rw [hm3, hm4, e]))) (fun h1 => ?_)
    have hl2 : c1.length = c2.length := by omega
    rintro _ _ _ rfl
    refine loop_intro (A := L11 (.sl p1 16 .str n1) (.sl p2 16 EvT c1) (.sl p3 16 .str n2) (.sl p4 16 EvT c2) n1 n2) (0 : Nat) ?_ ⟨by simp, by simp⟩ ?_
    · simp (maxSteps:=9^9) only [L11_I, go_sem, Int.reduceLT, Int.reduceLE, Int.reduceEq, Int.reduceNe, Int.reduceAdd, Int.reduceSub, Int.reduceMul, Int.reduceToNat, Int.reduceNeg, Nat.reduceEqDiff, Nat.reduceLeDiff, Nat.reduceSub, Nat.reduceMul, Nat.reduceLT, Nat.reduceBEq, Nat.reduceAdd]
      rfl
    · rintro (i : Nat) (⟨g1, g2⟩ : i ≤ n1.length ∧ (n1 : List ByteArray).take i = (n2 : List ByteArray).take i)
      simp (maxSteps:=9^9) only [L11_I, go_sem, Int.reduceLT, Int.reduceLE, Int.reduceEq, Int.reduceNe, Int.reduceAdd, Int.reduceSub, Int.reduceMul, Int.reduceToNat, Int.reduceNeg, Nat.reduceEqDiff, Nat.reduceLeDiff, Nat.reduceSub, Nat.reduceMul, Nat.reduceLT, Nat.reduceBEq, Nat.reduceAdd]
      intro c5 hc5
      refine swd hc5 (fun h2 => ?_) (fun h2 => ?_)
      · refine nd_intro h2 (nd_intro (by omega) ?_)
        intro c6 hc6
        refine swn hc6 (fun h3 => hf1 (fun e => h3 (by rw [e]))) (fun h3 => ?_)
        rintro _ _ m5 hm5
        rw [w64 (by omega)] at hm5
        rw [hm5, show (i : Int) + 1 = ((i + 1 : Nat) : Int) by omega]
        exact lpE_intro (A := L11 (.sl p1 16 .str n1) (.sl p2 16 EvT c1) (.sl p3 16 .str n2) (.sl p4 16 EvT c2) n1 n2) (i + 1 : Nat) rfl ⟨h2, take_next (t := .str) h2 (by omega) g2 h3⟩ (by show n1.length - (i + 1) < n1.length - i; omega)
      · have e1 : (n1 : List ByteArray) = n2 := by
          rw [List.take_of_length_le (by omega), List.take_of_length_le (by omega)] at g2
          exact g2
        rintro _ _ _ rfl
        refine loop_intro (A := M11 (.sl p1 16 .str n1) (.sl p2 16 EvT c1) (.sl p3 16 .str n2) (.sl p4 16 EvT c2) c1 c2) (0 : Nat) ?_ ⟨by simp, by simp⟩ ?_
        · simp (maxSteps:=9^9) only [M11_I, go_sem, Int.reduceLT, Int.reduceLE, Int.reduceEq, Int.reduceNe, Int.reduceAdd, Int.reduceSub, Int.reduceMul, Int.reduceToNat, Int.reduceNeg, Nat.reduceEqDiff, Nat.reduceLeDiff, Nat.reduceSub, Nat.reduceMul, Nat.reduceLT, Nat.reduceBEq, Nat.reduceAdd]
          rfl
        · rintro (j : Nat) (⟨k1, k2⟩ : j ≤ c1.length ∧ (c1 : List EvT.den).take j = (c2 : List EvT.den).take j)
          simp (maxSteps:=9^9) only [M11_I, go_sem, Int.reduceLT, Int.reduceLE, Int.reduceEq, Int.reduceNe, Int.reduceAdd, Int.reduceSub, Int.reduceMul, Int.reduceToNat, Int.reduceNeg, Nat.reduceEqDiff, Nat.reduceLeDiff, Nat.reduceSub, Nat.reduceMul, Nat.reduceLT, Nat.reduceBEq, Nat.reduceAdd]
          intro c6 hc6
          refine swd hc6 (fun h3 => ?_) (fun h3 => ?_)
          · refine nd_intro h3 (nd_intro (by omega) ?_)
            intro c7 hc7
            have hc7' : c7 = !decide (elt EvT c1 j = elt EvT c2 j) := by
              rw [hc7]
              congr 1
              rw [Bool.and_true, Bool.eq_iff_iff, Bool.and_eq_true, decide_eq_true_eq, decide_eq_true_eq, decide_eq_true_eq]
              exact ⟨fun h => Prod.ext h.1 h.2, fun h => by rw [h]; exact ⟨rfl, rfl⟩⟩
            refine swn hc7' (fun h4 => hf2 (fun e => h4 (by rw [e]))) (fun h4 => ?_)
            rintro _ _ m5 hm5
            rw [w64 (by omega)] at hm5
            rw [hm5, show (j : Int) + 1 = ((j + 1 : Nat) : Int) by omega]
            exact lpE_intro (A := M11 (.sl p1 16 .str n1) (.sl p2 16 EvT c1) (.sl p3 16 .str n2) (.sl p4 16 EvT c2) c1 c2) (j + 1 : Nat) rfl ⟨h3, take_next (t := EvT) h3 (by omega) k2 h4⟩ (by show c1.length - (j + 1) < c1.length - j; omega)
          · refine ht e1 ?_
            rw [List.take_of_length_le (by omega), List.take_of_length_le (by omega)] at k2
            exact k2
  · exact h.elim
def C11 : Contract := fun args hp K => match args, hp with
 | [.agg [x, y], .agg [z, u]], [] => onL .str 16 x fun n1 => onL EvT 16 y fun c1 => onL .str 16 z fun n2 => onL EvT 16 u fun c2 => K (.bool (decide ((n1 : List ByteArray) = n2) && decide ((c1 : List EvT.den) = c2))) []
 | _, _ => False
theorem s11 : Sound Tryd.prog 11 C11 := by
 intro args hp K h E vs hs hg hd
 unfold C11 at h
 split at h
 ·rename_i x y z u
  obtain ⟨p1, n1, h, a1, d1⟩ := onL_den h
  obtain ⟨p2, c1, h, a2, d2⟩ := onL_den h
  obtain ⟨p3, n2, h, a3, d3⟩ := onL_den h
  obtain ⟨p4, c2, h, a4, d4⟩ := onL_den h
  refine s11a [.agg [.sl p1 16 .str n1, .sl p2 16 EvT c1], .agg [.sl p3 16 .str n2, .sl p4 16 EvT c2]] [] K h E vs hs hg ?_
  simp only [denL] at hd ⊢
  obtain ⟨v, r, rfl, h1, v2, r2, rfl, h2, rfl⟩ := hd
  exact ⟨v, _, rfl, agg_den a1 a2 rfl rfl (d1 E) (d2 E) h1, v2, _, rfl, agg_den a3 a4 rfl rfl (d3 E) (d4 E) h2, rfl⟩
 ·exact h.elim
def C8 : Contract := fun args hp K => match args, hp with
 | [], [] => K (.bool true) []
 | _, _ => False
theorem awake_txt : parseGo (linesL [110, 97, 109, 101, 32, 54, 50, 10, 108, 111, 97, 100, 32, 48, 10, 112, 117, 115, 104, 32, 49, 10, 97, 100, 100, 10, 115, 116, 111, 114, 101, 32, 48, 10]) 1 [] [] false = .fin [bsOf [98]] [(2, 0), (1, 1), (6, 0), (3, 0)] false := by
 rfl
theorem pOut_fin {K : SV → List SB → Prop} {ns cs late} : pOut K (.fin ns cs late) = if late = true ∨ formP ns cs = false then K (.tup [.agg [.nils, .nils], .int .i64 0, .int .i64 2]) [] else K (.tup [.agg [.sl true 16 .str ns, .sl true 16 EvT cs], .int .i64 0, .int .i64 0]) [] := rfl
theorem pOut_bad {K : SV → List SB → Prop} {i} : pOut K (.bad i) = K (.tup [.agg [.nils, .nils], .int .i64 i, .int .i64 2]) [] := rfl
theorem use9 {s : ByteArray} {K : SV → List SB → Prop} (h1 : 20000 < s.size → K (.tup [.agg [.nils, .nils], .int .i64 0, .int .i64 4]) []) (h2 : s.size ≤ 20000 → pOut K (parseGo (linesL s.data.toList) 1 [] [] false)) : C9 [.str s] [] K := ⟨h1, h2⟩
theorem use10 {s : ByteArray} {K : SV → List SB → Prop} (h1 : 20000 < s.size → K (.tup [.agg [.nils, .nils], .int .i64 0, .int .i64 4]) []) (h2 : s.size ≤ 20000 → pOut K (parseGo (linesL s.data.toList) 1 [] [] false)) : C10 [.str s] [] K := ⟨h1, h2⟩
theorem s8 : Sound Tryd.prog 8 C8 := by
 refine sound_of_okF ok8 (.cons s9 (callable_of_okF ok9) .nil) ?_
 intro args hp K h
 unfold C8 at h
 split at h
 ·refine ⟨by simp, [], ?_⟩
  simp (maxSteps:=9^9) only [a8, r8, go_sem, Int.reduceLT, Int.reduceLE, Int.reduceEq, Int.reduceNe, Int.reduceAdd, Int.reduceSub, Int.reduceMul, Int.reduceToNat, Int.reduceNeg, Nat.reduceEqDiff, Nat.reduceLeDiff, Nat.reduceSub, Nat.reduceMul, Nat.reduceLT, Nat.reduceBEq, Nat.reduceAdd]
  refine use9 (fun h => absurd h (by decide)) (fun _ => ?_)
  have e := awake_txt
  have e2 : formP [bsOf [98]] [(2, 0), (1, 1), (6, 0), (3, 0)] = true := by rfl
  show pOut _ (parseGo (linesL [110, 97, 109, 101, 32, 54, 50, 10, 108, 111, 97, 100, 32, 48, 10, 112, 117, 115, 104, 32, 49, 10, 97, 100, 100, 10, 115, 116, 111, 114, 101, 32, 48, 10]) 1 [] [] false)
  rw [e, pOut_fin, if_neg (by rw [e2]; simp)]
  simp (maxSteps:=9^9) only [go_sem, Int.reduceLT, Int.reduceLE, Int.reduceEq, Int.reduceNe, Int.reduceAdd, Int.reduceSub, Int.reduceMul, Int.reduceToNat, Int.reduceNeg, Nat.reduceEqDiff, Nat.reduceLeDiff, Nat.reduceSub, Nat.reduceMul, Nat.reduceLT, Nat.reduceBEq, Nat.reduceAdd]
  intro _ m hm c hc
  refine swd hc (fun _ => ?_) (fun h0 => absurd hm h0)
  intro c1 hc1
  refine swd hc1 (fun _ => ?_) (fun h0 => absurd (by rfl) h0)
  intro _ m2 hm2 c2 hc2
  refine swd hc2 (fun _ => ?_) (fun h0 => absurd hm2 h0)
  refine nd_intro (by omega) ?_
  intro c3 hc3
  have e3 : c3 = true := by rw [hc3]; rfl
  rw [e3]
  exact h
 ·exact h.elim
theorem use12n {K : SV → List SB → Prop} (h : K (.agg [.sl true 16 .str [], .sl true 16 EvT []]) []) : C12 [.agg [.nils, .nils]] [] K := .inl ⟨rfl, .inl ⟨rfl, by simp, by simp, h⟩⟩
theorem use12 {ns : List ByteArray} {cs : List EvT.den} {K : SV → List SB → Prop} (h1 : ns.length ≤ 100000) (h2 : cs.length ≤ 100000) (h : K (.agg [.sl true 16 .str ns, .sl true 16 EvT cs]) []) : C12 [.agg [.sl true 16 .str ns, .sl true 16 EvT cs]] [] K := .inr ⟨_, _, rfl, .inr ⟨_, _, rfl, h1, h2, h⟩⟩
theorem use11n {K : SV → List SB → Prop} (h : K (.bool true) []) : C11 [.agg [.sl true 16 .str [], .sl true 16 EvT []], .agg [.nils, .nils]] [] K := .inr ⟨_, _, rfl, .inr ⟨_, _, rfl, .inl ⟨rfl, .inl ⟨rfl, by simpa using h⟩⟩⟩⟩
theorem use11 {n1 n2 : List ByteArray} {c1 c2 : List EvT.den} {K : SV → List SB → Prop} (h : K (.bool (decide (n1 = n2) && decide (c1 = c2))) []) : C11 [.agg [.sl true 16 .str n1, .sl true 16 EvT c1], .agg [.sl true 16 .str n2, .sl true 16 EvT c2]] [] K := .inr ⟨_, _, rfl, .inr ⟨_, _, rfl, .inr ⟨_, _, rfl, .inr ⟨_, _, rfl, h⟩⟩⟩⟩
def C3 : Contract := fun args hp K => match args, hp with
 | [.str s], [] => K (.bool true) []
 | _, _ => False
theorem s3 : Sound Tryd.prog 3 C3 := by
 refine sound_of_okF ok3 (.cons s8 (callable_of_okF ok8) (.cons s9 (callable_of_okF ok9) (.cons s10 (callable_of_okF ok10) (.cons s12 (callable_of_okF ok12) (.cons s11 (callable_of_okF ok11) .nil))))) ?_
 intro args hp K h
 unfold C3 at h
 split at h
 ·rename_i s
  refine ⟨by simp, [], ?_⟩
  simp (maxSteps:=9^9) only [a3, r3, C8, go_sem, Int.reduceLT, Int.reduceLE, Int.reduceEq, Int.reduceNe, Int.reduceAdd, Int.reduceSub, Int.reduceMul, Int.reduceToNat, Int.reduceNeg, Nat.reduceEqDiff, Nat.reduceLeDiff, Nat.reduceSub, Nat.reduceMul, Nat.reduceLT, Nat.reduceBEq, Nat.reduceAdd]
  rcases Nat.lt_or_ge 20000 s.size with hs | hs
  ·refine use9 (fun _ => ?_) (fun h' => absurd h' (by omega))
   simp (maxSteps:=9^9) only [go_sem, Int.reduceLT, Int.reduceLE, Int.reduceEq, Int.reduceNe, Int.reduceAdd, Int.reduceSub, Int.reduceMul, Int.reduceToNat, Int.reduceNeg, Nat.reduceEqDiff, Nat.reduceLeDiff, Nat.reduceSub, Nat.reduceMul, Nat.reduceLT, Nat.reduceBEq, Nat.reduceAdd]
   refine use10 (fun _ => ?_) (fun h' => absurd h' (by omega))
   simp (maxSteps:=9^9) only [go_sem, Int.reduceLT, Int.reduceLE, Int.reduceEq, Int.reduceNe, Int.reduceAdd, Int.reduceSub, Int.reduceMul, Int.reduceToNat, Int.reduceNeg, Nat.reduceEqDiff, Nat.reduceLeDiff, Nat.reduceSub, Nat.reduceMul, Nat.reduceLT, Nat.reduceBEq, Nat.reduceAdd]
   refine use12n ?_
   simp (maxSteps:=9^9) only [go_sem, Int.reduceLT, Int.reduceLE, Int.reduceEq, Int.reduceNe, Int.reduceAdd, Int.reduceSub, Int.reduceMul, Int.reduceToNat, Int.reduceNeg, Nat.reduceEqDiff, Nat.reduceLeDiff, Nat.reduceSub, Nat.reduceMul, Nat.reduceLT, Nat.reduceBEq, Nat.reduceAdd]
   refine use11n ?_
   simp (maxSteps:=9^9) only [go_sem, Int.reduceLT, Int.reduceLE, Int.reduceEq, Int.reduceNe, Int.reduceAdd, Int.reduceSub, Int.reduceMul, Int.reduceToNat, Int.reduceNeg, Nat.reduceEqDiff, Nat.reduceLeDiff, Nat.reduceSub, Nat.reduceMul, Nat.reduceLT, Nat.reduceBEq, Nat.reduceAdd]
   exact h
  ·refine use9 (fun h' => absurd h' (by omega)) (fun _ => ?_)
   cases hp : parseGo (linesL s.data.toList) 1 [] [] false with
   | bad i =>
    rw [pOut_bad]
    simp (maxSteps:=9^9) only [go_sem, Int.reduceLT, Int.reduceLE, Int.reduceEq, Int.reduceNe, Int.reduceAdd, Int.reduceSub, Int.reduceMul, Int.reduceToNat, Int.reduceNeg, Nat.reduceEqDiff, Nat.reduceLeDiff, Nat.reduceSub, Nat.reduceMul, Nat.reduceLT, Nat.reduceBEq, Nat.reduceAdd]
    refine use10 (fun h' => absurd h' (by omega)) (fun _ => ?_)
    rw [hp, pOut_bad]
    simp (maxSteps:=9^9) only [go_sem, Int.reduceLT, Int.reduceLE, Int.reduceEq, Int.reduceNe, Int.reduceAdd, Int.reduceSub, Int.reduceMul, Int.reduceToNat, Int.reduceNeg, Nat.reduceEqDiff, Nat.reduceLeDiff, Nat.reduceSub, Nat.reduceMul, Nat.reduceLT, Nat.reduceBEq, Nat.reduceAdd]
    refine use12n ?_
    simp (maxSteps:=9^9) only [go_sem, Int.reduceLT, Int.reduceLE, Int.reduceEq, Int.reduceNe, Int.reduceAdd, Int.reduceSub, Int.reduceMul, Int.reduceToNat, Int.reduceNeg, Nat.reduceEqDiff, Nat.reduceLeDiff, Nat.reduceSub, Nat.reduceMul, Nat.reduceLT, Nat.reduceBEq, Nat.reduceAdd]
    refine use11n ?_
    simp (maxSteps:=9^9) only [go_sem, Int.reduceLT, Int.reduceLE, Int.reduceEq, Int.reduceNe, Int.reduceAdd, Int.reduceSub, Int.reduceMul, Int.reduceToNat, Int.reduceNeg, Nat.reduceEqDiff, Nat.reduceLeDiff, Nat.reduceSub, Nat.reduceMul, Nat.reduceLT, Nat.reduceBEq, Nat.reduceAdd]
    exact h
   | fin ns cs late =>
    rw [pOut_fin]
    split
    ·rename_i hc
     simp (maxSteps:=9^9) only [go_sem, Int.reduceLT, Int.reduceLE, Int.reduceEq, Int.reduceNe, Int.reduceAdd, Int.reduceSub, Int.reduceMul, Int.reduceToNat, Int.reduceNeg, Nat.reduceEqDiff, Nat.reduceLeDiff, Nat.reduceSub, Nat.reduceMul, Nat.reduceLT, Nat.reduceBEq, Nat.reduceAdd]
     refine use10 (fun h' => absurd h' (by omega)) (fun _ => ?_)
     rw [hp, pOut_fin, if_pos hc]
     simp (maxSteps:=9^9) only [go_sem, Int.reduceLT, Int.reduceLE, Int.reduceEq, Int.reduceNe, Int.reduceAdd, Int.reduceSub, Int.reduceMul, Int.reduceToNat, Int.reduceNeg, Nat.reduceEqDiff, Nat.reduceLeDiff, Nat.reduceSub, Nat.reduceMul, Nat.reduceLT, Nat.reduceBEq, Nat.reduceAdd]
     refine use12n ?_
     simp (maxSteps:=9^9) only [go_sem, Int.reduceLT, Int.reduceLE, Int.reduceEq, Int.reduceNe, Int.reduceAdd, Int.reduceSub, Int.reduceMul, Int.reduceToNat, Int.reduceNeg, Nat.reduceEqDiff, Nat.reduceLeDiff, Nat.reduceSub, Nat.reduceMul, Nat.reduceLT, Nat.reduceBEq, Nat.reduceAdd]
     refine use11n ?_
     simp (maxSteps:=9^9) only [go_sem, Int.reduceLT, Int.reduceLE, Int.reduceEq, Int.reduceNe, Int.reduceAdd, Int.reduceSub, Int.reduceMul, Int.reduceToNat, Int.reduceNeg, Nat.reduceEqDiff, Nat.reduceLeDiff, Nat.reduceSub, Nat.reduceMul, Nat.reduceLT, Nat.reduceBEq, Nat.reduceAdd]
     exact h
    ·rename_i hc
     simp (maxSteps:=9^9) only [go_sem, Int.reduceLT, Int.reduceLE, Int.reduceEq, Int.reduceNe, Int.reduceAdd, Int.reduceSub, Int.reduceMul, Int.reduceToNat, Int.reduceNeg, Nat.reduceEqDiff, Nat.reduceLeDiff, Nat.reduceSub, Nat.reduceMul, Nat.reduceLT, Nat.reduceBEq, Nat.reduceAdd]
     refine use10 (fun h' => absurd h' (by omega)) (fun _ => ?_)
     rw [hp, pOut_fin, if_neg hc]
     simp (maxSteps:=9^9) only [go_sem, Int.reduceLT, Int.reduceLE, Int.reduceEq, Int.reduceNe, Int.reduceAdd, Int.reduceSub, Int.reduceMul, Int.reduceToNat, Int.reduceNeg, Nat.reduceEqDiff, Nat.reduceLeDiff, Nat.reduceSub, Nat.reduceMul, Nat.reduceLT, Nat.reduceBEq, Nat.reduceAdd]
     have hf : formP ns cs = true := by
      cases hfp : formP ns cs with
      | true => rfl
      | false => exact absurd (.inr hfp) hc
     have hf2 := (formP_iff.1 hf).1
     refine use12 (by omega) (by omega) ?_
     simp (maxSteps:=9^9) only [go_sem, Int.reduceLT, Int.reduceLE, Int.reduceEq, Int.reduceNe, Int.reduceAdd, Int.reduceSub, Int.reduceMul, Int.reduceToNat, Int.reduceNeg, Nat.reduceEqDiff, Nat.reduceLeDiff, Nat.reduceSub, Nat.reduceMul, Nat.reduceLT, Nat.reduceBEq, Nat.reduceAdd]
     refine use11 ?_
     simp (maxSteps:=9^9) only [go_sem, Int.reduceLT, Int.reduceLE, Int.reduceEq, Int.reduceNe, Int.reduceAdd, Int.reduceSub, Int.reduceMul, Int.reduceToNat, Int.reduceNeg, Nat.reduceEqDiff, Nat.reduceLeDiff, Nat.reduceSub, Nat.reduceMul, Nat.reduceLT, Nat.reduceBEq, Nat.reduceAdd]
     exact h
 ·exact h.elim
end Go.V
