/- A part of the proof layer, or functions of the given program in it: contracts and their proofs. -/
import Derived.Test.YtbcmjkfdeikkhaaGreatA43
namespace Go.V
open Go.Proofs
set_option maxRecDepth 100000
set_option maxHeartbeats 4000000
set_option linter.unusedSimpArgs false
set_option linter.unnecessarySimpa false
set_option linter.unusedVariables false
/-! ### an actor's bytes -/
def txB (bs : List UInt8) : List UInt8 := textB ⟨bs.toArray⟩
theorem txB_length (bs : List UInt8) : (txB bs).length ≤ bs.length + 9 := by
  have := textB_length ⟨bs.toArray⟩
  have h : (⟨bs.toArray⟩ : ByteArray).size = bs.length := by show bs.toArray.size = _; simp
  rw [h] at this
  exact this
def actB (S : ActS) (out : List UInt8) : List UInt8 := numB S.tries ++ txB (jB S.b S.ev S.v) ++ txB (packB S.inb) ++ txB out ++ txB (packB S.poi)
structure OkA (S : ActS) : Prop where
  b8 : S.b.length = 8
  ev : S.ev.all okEv = true
  e16 : S.ev.length ≤ 16
  in8 : S.inb.length ≤ 8
  inf : S.inb.all fmL = true
  out : OutOk S.o S.l S.m
structure RngA (S : ActS) : Prop where
  j : rngJ S.b S.ev
  inb : rngL S.inb
  l : rng S.l
  poi : rngL S.poi
theorem outE_len {o : ByteArray} {l : List OutT.den} {m : List (ByteArray × Int)} (ok : OutOk o l m) : (outE o l m).length ≤ 20000 := by
  have b1 := textB_len o ok.o40
  have b2 := (numB_length (m.length : Int)).2
  have b3 := (numB_length (l.length : Int)).2
  have b4 := keysE_len m (srtK (vt := .int .u64) m) (fun k hk => by
    obtain ⟨y, hy, rfl⟩ := srtK_mem hk
    exact ok.k40 y hy)
  have b5 := outsE_len l ok.x40
  have hsl := srtK_length (vt := .int .u64) m
  have h1 := ok.m64
  have h2 := ok.l32
  simp only [outE, List.length_append]
  omega

/-- Encode -/
def C16 : Contract := fun args hp K => match args with
  | [.nilp] => hp = [] ∧ K (.tup [.own 0, .int .i64 1]) [.row true 1 .byte []]
  | [.ptr 0 0] => (onA hp fun S => OkA S ∧ (sndS S.tries S.inb.length S.poi = false → K (.tup [.own 8, .int .i64 1]) (acH false S ++ [.row true 1 .byte []])) ∧
      (sndS S.tries S.inb.length S.poi = true → RngA S → K (.tup [.own 8, .int .i64 0]) (acH false S ++ [.row true 1 .byte (actB S (outE S.o S.l S.m))]))) ∨
      (∃ n S, hp = lackH n S ∧ K (.tup [.own hp.length, .int .i64 1]) (hp ++ [.row true 1 .byte []]))
  | _ => False
def bl4 (S : ActS) : List (List UInt8) := [jB S.b S.ev S.v, packB S.inb, outE S.o S.l S.m, packB S.poi]
def txsB (l : List (List UInt8)) : List UInt8 := l.flatMap txB
theorem txsB_snoc (l : List (List UInt8)) (x : List UInt8) : txsB (l ++ [x]) = txsB l ++ txB x := by simp [txsB]
theorem txsB_length (l : List (List UInt8)) (h : ∀ x ∈ l, x.length ≤ 100000) : (txsB l).length ≤ 100009 * l.length := by
  induction l with
  | nil => simp [txsB]
  | cons x r ih =>
    have := ih (fun y hy => h y (List.mem_cons_of_mem _ hy))
    have h1 := txB_length x
    have h2 := h x (by simp)
    simp only [txsB, List.flatMap_cons, List.length_append, List.length_cons] at this ⊢
    omega
theorem bl4_le {S : ActS} (ok : OkA S) (hp : S.poi.length ≤ 8 ∧ S.poi.all fmL = true) : ∀ x ∈ bl4 S, x.length ≤ 100000 := by
  have h1 := jB_length S.b S.ev S.v
  have h2 := packB_length S.inb ok.inf
  have h3 := outE_len ok.out
  have h4 := packB_length S.poi hp.2
  have h5 := ok.b8
  have h6 := ok.e16
  have h7 := ok.in8
  intro x hx
  simp only [bl4, List.mem_cons, List.mem_nil_iff, or_false] at hx
  rcases hx with rfl | rfl | rfl | rfl <;> omega
def L16 (S : ActS) : LoopAnn := cntA (fun i => ⟨[(6, .ptr 8 0), (44, .own 10), (45, .int .i64 4), (46, .int .i64 i)], acH false S ++ [.struct [.own 9], .row true 1 .byte (numB S.tries ++ txsB ((bl4 S).take i)), .row true 24 (.sl 1 .byte) (bl4 S)]⟩) 4
theorem sndS_poi {t : Int} {n : Nat} {poi : List LetT.den} (h : sndS t n poi = true) : (0 ≤ t ∧ t < 3) ∧ poi.length ≤ 8 ∧ poi.all fmL = true := by
  unfold sndS at h
  simp only [Bool.and_eq_true, decide_eq_true_eq] at h
  exact ⟨⟨h.1, h.2.1⟩, h.2.2.2⟩
theorem s16 : Sound Tryz.prog 16 C16 := by
  refine sound_of_okF ok16 (Γ := [(56, C56), (57, C57), (58, C58), (59, C59), (60, C60), (61, C61), (34, C34), (62, C62), (63, C63)]) (.cons s56 (callable_of_okF ok56) (.cons s57 (callable_of_okF ok57) (.cons s58 (callable_of_okF ok58) (.cons s59 (callable_of_okF ok59) (.cons s60 (callable_of_okF ok60) (.cons s61 (callable_of_okF ok61) (.cons s34 (callable_of_okF ok34) (.cons s62 (callable_of_okF ok62) (.cons s63 (callable_of_okF ok63) .nil))))))))) ?_
  intro args hp K h
  unfold C16 at h
  split at h
  · obtain ⟨rfl, h⟩ := h
    refine ⟨by simp, [], ?_⟩
    simp (maxSteps := 2000000) only [a16, r16, C56, go_sem, eq_self, and_self, Int.natCast_pos, Int.le_refl, Nat.le_refl, Int.natCast_nonneg, Int.ofNat_lt, Int.ofNat_le, Int.reduceLT, Int.reduceLE, Int.reduceEq, Int.reduceNe, Int.reduceAdd, Int.reduceSub, Int.reduceMul, Int.reduceToNat, Int.reduceNeg, Nat.reduceEqDiff, Nat.reduceLeDiff, Nat.reduceSub, Nat.reduceMul, Nat.reduceLT, Nat.reduceBEq, Nat.reduceAdd]
    exact h
  · rcases h with ⟨S, rfl, hk, h1, h2⟩ | ⟨k, S, rfl, h⟩
    · refine ⟨by simp, [(1, L16 S)], ?_⟩
      unfold acH at h1 h2 ⊢
      simp (maxSteps := 2000000) only [a16, r16, C56, C57, C58, C59, C60, C61, C34, wrH, jH, inH, obH, go_sem, eq_self, and_self, Int.natCast_pos, Int.le_refl, Nat.le_refl, Int.natCast_nonneg, Int.ofNat_lt, Int.ofNat_le, Int.reduceLT, Int.reduceLE, Int.reduceEq, Int.reduceNe, Int.reduceAdd, Int.reduceSub, Int.reduceMul, Int.reduceToNat, Int.reduceNeg, Nat.reduceEqDiff, Nat.reduceLeDiff, Nat.reduceSub, Nat.reduceMul, Nat.reduceLT, Nat.reduceBEq, Nat.reduceAdd]
      refine .inl ⟨by have := hk.in8; omega, hk.out.o0, sw_intro (fun hs => ?_) (fun hs => h1 hs)⟩
      obtain ⟨ht, hp8, hpf⟩ := sndS_poi hs
      refine ⟨by omega, ?_, fun h9 => by rw [hpf] at h9; cases h9⟩
      rintro _ r1 _ m hm
      rw [wu64 (by omega)] at hm
      subst hm
      refine ⟨hk.b8, hk.ev, hk.e16, fun r2 => ⟨hk.in8, hk.inf, fun r3 => ⟨hk.out, fun r4 => ?_⟩⟩⟩
      have h2 := h2 hs ⟨r2, r3, r4, r1⟩
      have hle := bl4_le hk ⟨hp8, hpf⟩
      have hmx := maxLen_val
      have b1 := (numB_length S.tries).2
      rintro _ m rfl
      refine loop_intro (A := L16 S) (0 : Nat) ?_ (Nat.zero_le _) ?_
      · simp (maxSteps := 2000000) only [L16, cntA_I, acH, go_sem, eq_self, and_self, Int.natCast_pos, Int.le_refl, Nat.le_refl, Int.natCast_nonneg, Int.ofNat_lt, Int.ofNat_le, Int.reduceLT, Int.reduceLE, Int.reduceEq, Int.reduceNe, Int.reduceAdd, Int.reduceSub, Int.reduceMul, Int.reduceToNat, Int.reduceNeg, Nat.reduceEqDiff, Nat.reduceLeDiff, Nat.reduceSub, Nat.reduceMul, Nat.reduceLT, Nat.reduceBEq, Nat.reduceAdd]
        simp [txsB, bl4]
      · intro (i : Nat) (hi : i ≤ 4)
        simp (maxSteps := 2000000) only [L16, cntA_I, acH, C62, C63, wrH, go_sem, eq_self, and_self, Int.natCast_pos, Int.le_refl, Nat.le_refl, Int.natCast_nonneg, Int.ofNat_lt, Int.ofNat_le, Int.reduceLT, Int.reduceLE, Int.reduceEq, Int.reduceNe, Int.reduceAdd, Int.reduceSub, Int.reduceMul, Int.reduceToNat, Int.reduceNeg, Nat.reduceEqDiff, Nat.reduceLeDiff, Nat.reduceSub, Nat.reduceMul, Nat.reduceLT, Nat.reduceBEq, Nat.reduceAdd]
        have hl4 : (bl4 S).length = 4 := rfl
        have b2 := txsB_length ((bl4 S).take i) (fun x hx => hle x (List.mem_of_mem_take hx))
        have b3 : ((bl4 S).take i).length ≤ 4 := by rw [List.length_take]; omega
        rintro c rfl
        refine sw_intro (fun hc => ?_) (fun hc => ?_) <;> simp only [decide_eq_true_eq, decide_eq_false_iff_not] at hc
        · have hc' : i < 4 := by omega
          refine nd_intro (by omega) ?_
          have hx := hle _ (elt_mem (t := .sl 1 .byte) (xs := bl4 S) (by omega : i < (bl4 S).length))
          rintro u rfl
          have hu : (⟨List.toArray (elt (.sl 1 .byte) (bl4 S) i)⟩ : ByteArray).size = (elt (.sl 1 .byte) (bl4 S) i : List UInt8).length := by show (List.toArray _).size = _; simp
          refine ⟨by rw [hu]; simp only [List.length_append]; omega, ?_⟩
          rintro _ _ m hm
          rw [w64 (by omega)] at hm
          subst hm
          refine cntA_next hc' ?_
          simp (maxSteps := 2000000) only [go_sem, eq_self, and_self, Int.natCast_pos, Int.le_refl, Nat.le_refl, Int.natCast_nonneg, Int.ofNat_lt, Int.ofNat_le, Int.reduceLT, Int.reduceLE, Int.reduceEq, Int.reduceNe, Int.reduceAdd, Int.reduceSub, Int.reduceMul, Int.reduceToNat, Int.reduceNeg, Nat.reduceEqDiff, Nat.reduceLeDiff, Nat.reduceSub, Nat.reduceMul, Nat.reduceLT, Nat.reduceBEq, Nat.reduceAdd]
          rw [← take_elt (t := .sl 1 .byte) (l := bl4 S) (i := i) (by rw [hl4]; exact hc'), txsB_snoc]
          simp only [List.append_assoc]
          rfl
        · obtain rfl : i = 4 := by omega
          have e : numB S.tries ++ txsB ((bl4 S).take 4) = actB S (outE S.o S.l S.m) := by simp [bl4, txsB, actB]
          rw [e]
          exact h2
    · unfold lackH at h ⊢
      split at h
      · refine ⟨by simp, [], ?_⟩
        simp (maxSteps := 2000000) only [a16, r16, C56, go_sem, eq_self, and_self, Int.natCast_pos, Int.le_refl, Nat.le_refl, Int.natCast_nonneg, Int.ofNat_lt, Int.ofNat_le, Int.reduceLT, Int.reduceLE, Int.reduceEq, Int.reduceNe, Int.reduceAdd, Int.reduceSub, Int.reduceMul, Int.reduceToNat, Int.reduceNeg, Nat.reduceEqDiff, Nat.reduceLeDiff, Nat.reduceSub, Nat.reduceMul, Nat.reduceLT, Nat.reduceBEq, Nat.reduceAdd]
        exact .inr ⟨⟨0, S, rfl⟩, h⟩
      · refine ⟨by simp, [], ?_⟩
        simp (maxSteps := 2000000) only [a16, r16, C56, go_sem, eq_self, and_self, Int.natCast_pos, Int.le_refl, Nat.le_refl, Int.natCast_nonneg, Int.ofNat_lt, Int.ofNat_le, Int.reduceLT, Int.reduceLE, Int.reduceEq, Int.reduceNe, Int.reduceAdd, Int.reduceSub, Int.reduceMul, Int.reduceToNat, Int.reduceNeg, Nat.reduceEqDiff, Nat.reduceLeDiff, Nat.reduceSub, Nat.reduceMul, Nat.reduceLT, Nat.reduceBEq, Nat.reduceAdd]
        exact .inr ⟨⟨1, S, rfl⟩, h⟩
      · refine ⟨by simp, [], ?_⟩
        simp (maxSteps := 2000000) only [a16, r16, C56, go_sem, eq_self, and_self, Int.natCast_pos, Int.le_refl, Nat.le_refl, Int.natCast_nonneg, Int.ofNat_lt, Int.ofNat_le, Int.reduceLT, Int.reduceLE, Int.reduceEq, Int.reduceNe, Int.reduceAdd, Int.reduceSub, Int.reduceMul, Int.reduceToNat, Int.reduceNeg, Nat.reduceEqDiff, Nat.reduceLeDiff, Nat.reduceSub, Nat.reduceMul, Nat.reduceLT, Nat.reduceBEq, Nat.reduceAdd]
        exact .inr ⟨⟨2, S, rfl⟩, h⟩
      · refine ⟨by simp, [], ?_⟩
        simp (maxSteps := 2000000) only [a16, r16, C56, go_sem, eq_self, and_self, Int.natCast_pos, Int.le_refl, Nat.le_refl, Int.natCast_nonneg, Int.ofNat_lt, Int.ofNat_le, Int.reduceLT, Int.reduceLE, Int.reduceEq, Int.reduceNe, Int.reduceAdd, Int.reduceSub, Int.reduceMul, Int.reduceToNat, Int.reduceNeg, Nat.reduceEqDiff, Nat.reduceLeDiff, Nat.reduceSub, Nat.reduceMul, Nat.reduceLT, Nat.reduceBEq, Nat.reduceAdd]
        exact .inr ⟨⟨3, S, rfl⟩, h⟩
  · exact h.elim
end Go.V
