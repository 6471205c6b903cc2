/- A part of the proof layer, or functions of the given program in it: contracts and their proofs. -/
import Derived.Test.YtbcmjkfdeikkhaaGreatMA82
namespace Go.V
open Go.Proofs
set_option maxRecDepth 100000
set_option maxHeartbeats 16000000
set_option linter.unusedSimpArgs false
set_option linter.unnecessarySimpa false
set_option linter.unusedVariables false
theorem takeK_bad {S : ActS} {ls : List LastT.den} {names : List ByteArray} {code : List EvT.den} {now : Int} {K : SV → List SB → Prop} (no : ¬ takeOk S names code now) (hK : K (.tup [out0, .int .i64 1]) (acH false S)) : TakeK S ls names code now K where
  bad := fun _ => hK
  none := fun h _ => (no h).elim
  again := fun h => (no h).elim
  full := fun h => (no h).elim
  poison := fun h => (no h).elim
  room := fun h => (no h).elim
  done := fun h => (no h).elim
theorem takeK_again {S : ActS} {ls : List LastT.den} {names : List ByteArray} {code : List EvT.den} {now : Int} {K : SV → List SB → Prop} {f : ByteArray} {s k : Int} {xs : List Int} {r : List LetT.den} {X : Mc × Int} (ok : takeOk S names code now) (hr : S.inb = (f, s, k, xs) :: r) (hX : X = runI 501 (startM names code f s k xs now (appE S.b S.ev))) (h0 : X.2 ≠ 0) (ht : S.tries + 1 < 3) (hK : K (.tup [.agg [.bool false, .bool false, .int .i64 X.2, .int .i64 X.1.steps, .nils], .int .i64 0]) (acH false { S with tries := S.tries + 1 })) : TakeK S ls names code now K where
  bad := fun h => (h ok).elim
  none := fun _ h => by rw [hr] at h; cases h
  again := fun _ f' s' k' xs' r' hr' X' hX' h1 h2 => by rw [hr] at hr'; cases hr'; rw [hX', ← hX]; exact hK
  full := fun _ f' s' k' xs' r' hr' X' hX' h1 h2 h3 => (h2 ht).elim
  poison := fun _ f' s' k' xs' r' hr' X' hX' h1 h2 h3 => (h2 ht).elim
  room := fun _ f' s' k' xs' r' hr' X' hX' h1 h2 => by
    rw [hr] at hr'; cases hr'; rw [hX', ← hX] at h1; exact (h0 h1).elim
  done := fun _ f' s' k' xs' r' hr' X' hX' h1 p' h2 => by
    rw [hr] at hr'; cases hr'; rw [hX', ← hX] at h1; exact (h0 h1).elim
theorem takeK_full {S : ActS} {ls : List LastT.den} {names : List ByteArray} {code : List EvT.den} {now : Int} {K : SV → List SB → Prop} {f : ByteArray} {s k : Int} {xs : List Int} {r : List LetT.den} {X : Mc × Int} (ok : takeOk S names code now) (hr : S.inb = (f, s, k, xs) :: r) (hX : X = runI 501 (startM names code f s k xs now (appE S.b S.ev))) (h0 : X.2 ≠ 0) (ht : ¬ S.tries + 1 < 3) (h8 : 8 ≤ S.poi.length) (hK : K (.tup [out0, .int .i64 8]) (acH false S)) : TakeK S ls names code now K where
  bad := fun h => (h ok).elim
  none := fun _ h => by rw [hr] at h; cases h
  again := fun _ f' s' k' xs' r' hr' X' hX' h1 h2 => (ht h2).elim
  full := fun _ f' s' k' xs' r' hr' X' hX' h1 h2 h3 => hK
  poison := fun _ f' s' k' xs' r' hr' X' hX' h1 h2 h3 => (h3 h8).elim
  room := fun _ f' s' k' xs' r' hr' X' hX' h1 h2 => by
    rw [hr] at hr'; cases hr'; rw [hX', ← hX] at h1; exact (h0 h1).elim
  done := fun _ f' s' k' xs' r' hr' X' hX' h1 p' h2 => by
    rw [hr] at hr'; cases hr'; rw [hX', ← hX] at h1; exact (h0 h1).elim
theorem takeK_pois {S : ActS} {ls : List LastT.den} {names : List ByteArray} {code : List EvT.den} {now : Int} {K : SV → List SB → Prop} {f : ByteArray} {s k : Int} {xs : List Int} {r : List LetT.den} {X : Mc × Int} (ok : takeOk S names code now) (hr : S.inb = (f, s, k, xs) :: r) (hX : X = runI 501 (startM names code f s k xs now (appE S.b S.ev))) (h0 : X.2 ≠ 0) (ht : ¬ S.tries + 1 < 3) (h8 : ¬ 8 ≤ S.poi.length) (hK : K (.tup [.agg [.bool false, .bool true, .int .i64 X.2, .int .i64 X.1.steps, .nils], .int .i64 0]) (acG true { S with inb := r, poi := S.poi ++ [(f, s, k, xs)], tries := 0 })) : TakeK S ls names code now K where
  bad := fun h => (h ok).elim
  none := fun _ h => by rw [hr] at h; cases h
  again := fun _ f' s' k' xs' r' hr' X' hX' h1 h2 => (ht h2).elim
  full := fun _ f' s' k' xs' r' hr' X' hX' h1 h2 h3 => (h8 h3).elim
  poison := fun _ f' s' k' xs' r' hr' X' hX' h1 h2 h3 => by rw [hr] at hr'; cases hr'; rw [hX', ← hX]; exact hK
  room := fun _ f' s' k' xs' r' hr' X' hX' h1 h2 => by
    rw [hr] at hr'; cases hr'; rw [hX', ← hX] at h1; exact (h0 h1).elim
  done := fun _ f' s' k' xs' r' hr' X' hX' h1 p' h2 => by
    rw [hr] at hr'; cases hr'; rw [hX', ← hX] at h1; exact (h0 h1).elim
theorem okLet_of {x : LetT.den} (h1 : fmL x = true) (h2 : 0 ≤ x.2.1 ∧ x.2.1 ≤ 18446744073709551615) (h3 : in64 x.2.2.1 ∧ inI x.2.2.2) : okLet x := ⟨(fmL_iff.1 h1).1, (fmL_iff.1 h1).2, h2, h3.1, h3.2⟩
theorem encB_eq {S S' : ActS} {ls : List LastT.den} {B B' : Int} (h : GoodA S ls B) (h' : GoodA S' ls B') (e : S'.o = S.o ∧ S'.l = S.l ∧ S'.b = S.b ∧ S'.ev = S.ev ∧ S'.v = S.v ∧ S'.inb = S.inb ∧ S'.tries = S.tries ∧ S'.poi = S.poi) : actB S (outE S.o S.l S.m) = actB S' (outE S'.o S'.l S'.m) := by
  rw [enc_rel h.inv.keys h.rel, enc_rel h'.inv.keys h'.rel]
  unfold actB
  obtain ⟨e1, e2, e3, e4, e5, e6, e7, e8⟩ := e
  rw [e1, e2, e3, e4, e5, e6, e7, e8]
theorem gt {S : ActS} {ls B} (h : GoodA S ls B) (t : Int) : GoodA { S with tries := t } ls B := ⟨h.b8, h.ev, h.e16, h.in8, h.inf, h.inv, h.rel⟩
theorem gp {S : ActS} {ls B} (h : GoodA S ls B) {x : LetT.den} {r : List LetT.den} (hr : S.inb = x :: r) (poi : List LetT.den) : GoodA { S with inb := r, poi := poi, tries := 0 } ls B := by
  have h1 := h.in8
  have h2 := h.inf
  rw [hr] at h1 h2
  simp only [List.length_cons] at h1
  simp only [List.all_cons, Bool.and_eq_true] at h2
  exact ⟨h.b8, h.ev, h.e16, by show r.length ≤ 8; omega, h2.2, h.inv, h.rel⟩
/-- TurnCopies -/
def C5 : Contract := fun args hp K => match args, hp with
  | [.agg [.sl p5 16 .str names, .sl p6 16 (.pair (.int .i64) (.int .i64)) code], .agg [.sl p1 56 (.pair .str (.pair (.int .u64) (.pair (.int .i64) (.sl 8 (.int .i64))))) letters, .sl p2 56 (.pair .str (.pair (.int .u64) (.pair (.int .i64) (.sl 8 (.int .i64))))) poison, .sl p3 16 .str to, .sl p4 16 (.pair (.int .i64) (.int .i64)) events, .int .i64 tries], .int .i64 now], [] =>
      (∀ x ∈ (letters : List LetT.den), 0 ≤ x.2.1 ∧ x.2.1 ≤ 18446744073709551615) ∧ (∀ x ∈ (poison : List LetT.den), 0 ≤ x.2.1 ∧ x.2.1 ≤ 18446744073709551615) ∧ K (.bool true) []
  | _, _ => False
theorem s5 : Sound Tryz.prog 5 C5 := by
  refine sound_of_okF ok5 (Γ := [(6, C6), (7, C7), (8, C8), (16, C16), (17, C17), (10, C10), (9, C9), (14, C14), (13, C13)]) (.cons s6 (callable_of_okF ok6) (.cons s7 (callable_of_okF ok7) (.cons s8 (callable_of_okF ok8) (.cons s16 (callable_of_okF ok16) (.cons s17 (callable_of_okF ok17) (.cons s10 (callable_of_okF ok10) (.cons s9 (callable_of_okF ok9) (.cons s14 (callable_of_okF ok14) (.cons s13 (callable_of_okF ok13) .nil))))))))) ?_
  intro args hp K h
  unfold C5 at h
  split at h
  · rename_i p5 names p6 code p1 letters p2 poison p3 to p4 events tries now
    obtain ⟨hsl, hsp, h⟩ := h
    refine ⟨by simp, [], ?_⟩
    have hmx := maxLen_val
    simp (maxSteps := 2000000) only [a5, r5, C6, C7, C8, twoH, acH, wc8, go_sem, eq_self, Nat.le_refl, Nat.reduceLeDiff, Nat.reduceSub, Nat.reduceLT, Nat.reduceBEq, Nat.reduceAdd]
    intro b hb
    refine sw_intro (fun hb1 => ?_) (fun _ => h)
    obtain ⟨he, hf⟩ := hb hb1
    rw [fewP_iff] at hf
    refine ⟨⟨Nat.zero_le _, Nat.zero_le _, by omega, Nat.zero_le _⟩, fun h9 => absurd h9 (by decide), fun _ S ls ho ht hpoi hin hsub hG hver => ?_⟩
    refine c13_good (S := S) hG.ok (fun hs => ?_) (fun hs hrg => ?_)
    · simp (maxSteps := 2000000) only [acH, go_sem, Int.reduceEq, Nat.reduceSub, Nat.reduceLT, Nat.reduceBEq, Nat.reduceAdd]
      exact h
    have hE : EncOk S ls 140737488355328 := ⟨hG, hrg, hs, ⟨hver.1, by omega⟩, fun x hx => okLet_of (List.all_eq_true.1 hG.inf x hx) (hsl x (hsub x hx)) (hrg.inb x hx), fun x hx => okLet_of (by
        simp only [sndS, Bool.and_eq_true, decide_eq_true_eq] at hs
        exact List.all_eq_true.1 hs.2.2.2.2 x hx) (hsp x (by rw [← hpoi]; exact hx)) (hrg.poi x hx)⟩
    have hG' : GoodA { S with m := ls } ls 140737488355328 := ⟨hG.b8, hG.ev, hG.e16, hG.in8, hG.inf, hG.inv, Rel.self hG.inv.keys⟩
    simp (maxSteps := 2000000) only [acH, go_sem, eq_self, Nat.reduceSub, Nat.reduceLT, Nat.reduceBEq, Nat.reduceAdd]
    refine ⟨rfl, S, ls, _, hE, by rw [enc_rel hG.inv.keys hG.rel], ?_⟩
    simp (maxSteps := 2000000) only [acH, C10, go_sem, eq_self, Nat.le_refl, Nat.reduceLeDiff, Nat.reduceSub, Nat.reduceLT, Nat.reduceBEq, Nat.reduceAdd]
    refine ⟨by omega, by omega, ?_⟩
    refine c21_sl (S := S) hG ⟨fun hno => ?_, fun ok h0 => ?_, fun ok f s k xs r hr X hX h1 h2 => ?_, fun ok f s k xs r hr X hX h1 h2 h3 => ?_, fun ok f s k xs r hr X hX h1 h2 h3 => ?_, fun ok f s k xs r hr X hX h0 hs2 => ?_, fun ok f s k xs r hr X hX h0 p hs2 => ?_⟩
    · simp (maxSteps := 2000000) only [acH, out0, C10, go_sem, eq_self, Nat.le_refl, Nat.reduceLeDiff, Nat.reduceSub, Nat.reduceLT, Nat.reduceBEq, Nat.reduceAdd]
      refine ⟨by omega, by omega, ?_⟩
      refine c21_sl (S := { S with m := ls }) hG' (takeK_bad hno ?_)
      simp (maxSteps := 2000000) only [acH, out0, go_sem, eq_self, Nat.le_refl, Nat.reduceLeDiff, Nat.reduceSub, Nat.reduceLT, Nat.reduceBEq, Nat.reduceAdd]
      refine c13_good (S := S) hG.ok (fun s1 => ?_) (fun s1 r1 => ?_)
      · simp (maxSteps := 2000000) only [acH, go_sem, eq_self, Nat.reduceSub, Nat.reduceLT, Nat.reduceBEq, Nat.reduceAdd]
        refine c13_good (S := { S with m := ls }) hG'.ok (fun s2 => ?_) (fun s2 _ => absurd (s1.symm.trans s2) (by decide))
        simp (maxSteps := 2000000) only [acH, C14, C13, go_sem, eq_self, and_self, Nat.le_refl, Nat.reduceLeDiff, Nat.reduceSub, Nat.reduceLT, Nat.reduceBEq, Nat.reduceAdd]
        refine sw_intro (fun _ => ?_) (fun h9 => absurd h9 (by simp))
        rintro _ rfl _ rfl c hc
        rw [show c = true from hc.trans (decide_eq_true rfl)]
        exact h
      · simp (maxSteps := 2000000) only [acH, go_sem, eq_self, Nat.reduceSub, Nat.reduceLT, Nat.reduceBEq, Nat.reduceAdd]
        refine c13_good (S := { S with m := ls }) hG'.ok (fun s2 => absurd (s2.symm.trans s1) (by decide)) (fun s2 r2 => ?_)
        simp (maxSteps := 2000000) only [acH, C14, C13, go_sem, eq_self, and_self, Nat.le_refl, Nat.reduceLeDiff, Nat.reduceSub, Nat.reduceLT, Nat.reduceBEq, Nat.reduceAdd]
        refine sw_intro (fun _ => ?_) (fun h9 => absurd h9 (by simp))
        rintro _ rfl _ rfl c hc
        rw [show c = true from hc.trans (decide_eq_true (congrArg (fun l : List UInt8 => (⟨l.toArray⟩ : ByteArray)) (encB_eq hG hG' ⟨rfl, rfl, rfl, rfl, rfl, rfl, rfl, rfl⟩)))]
        exact h
    · simp (maxSteps := 2000000) only [acH, out0, C10, go_sem, eq_self, Nat.le_refl, Nat.reduceLeDiff, Nat.reduceSub, Nat.reduceLT, Nat.reduceBEq, Nat.reduceAdd]
      refine ⟨by omega, by omega, ?_⟩
      refine c21_sl (S := { S with m := ls }) hG' (takeK_none h0 (fun _ => ?_) (fun hno => (hno ok).elim))
      simp (maxSteps := 2000000) only [acH, out0, go_sem, eq_self, Nat.le_refl, Nat.reduceLeDiff, Nat.reduceSub, Nat.reduceLT, Nat.reduceBEq, Nat.reduceAdd]
      refine c13_good (S := S) hG.ok (fun s1 => ?_) (fun s1 r1 => ?_)
      · simp (maxSteps := 2000000) only [acH, go_sem, eq_self, Nat.reduceSub, Nat.reduceLT, Nat.reduceBEq, Nat.reduceAdd]
        refine c13_good (S := { S with m := ls }) hG'.ok (fun s2 => ?_) (fun s2 _ => absurd (s1.symm.trans s2) (by decide))
        simp (maxSteps := 2000000) only [acH, C14, C13, go_sem, eq_self, and_self, Nat.le_refl, Nat.reduceLeDiff, Nat.reduceSub, Nat.reduceLT, Nat.reduceBEq, Nat.reduceAdd]
        refine sw_intro (fun _ => ?_) (fun h9 => absurd h9 (by simp))
        rintro _ rfl _ rfl c hc
        rw [show c = true from hc.trans (decide_eq_true rfl)]
        exact h
      · simp (maxSteps := 2000000) only [acH, go_sem, eq_self, Nat.reduceSub, Nat.reduceLT, Nat.reduceBEq, Nat.reduceAdd]
        refine c13_good (S := { S with m := ls }) hG'.ok (fun s2 => absurd (s2.symm.trans s1) (by decide)) (fun s2 r2 => ?_)
        simp (maxSteps := 2000000) only [acH, C14, C13, go_sem, eq_self, and_self, Nat.le_refl, Nat.reduceLeDiff, Nat.reduceSub, Nat.reduceLT, Nat.reduceBEq, Nat.reduceAdd]
        refine sw_intro (fun _ => ?_) (fun h9 => absurd h9 (by simp))
        rintro _ rfl _ rfl c hc
        rw [show c = true from hc.trans (decide_eq_true (congrArg (fun l : List UInt8 => (⟨l.toArray⟩ : ByteArray)) (encB_eq hG hG' ⟨rfl, rfl, rfl, rfl, rfl, rfl, rfl, rfl⟩)))]
        exact h
    · simp (maxSteps := 2000000) only [acH, C10, go_sem, eq_self, Nat.le_refl, Nat.reduceLeDiff, Nat.reduceSub, Nat.reduceLT, Nat.reduceBEq, Nat.reduceAdd]
      refine ⟨by omega, by omega, ?_⟩
      refine c21_sl (S := { S with m := ls }) hG' (takeK_again ok hr hX h1 h2 ?_)
      simp (maxSteps := 2000000) only [acH, go_sem, eq_self, Nat.le_refl, Nat.reduceLeDiff, Nat.reduceSub, Nat.reduceLT, Nat.reduceBEq, Nat.reduceAdd]
      refine c13_good (S := { S with tries := S.tries + 1 }) (gt hG _).ok (fun s1 => ?_) (fun s1 r1 => ?_)
      · simp (maxSteps := 2000000) only [acH, go_sem, eq_self, Nat.reduceSub, Nat.reduceLT, Nat.reduceBEq, Nat.reduceAdd]
        refine c13_good (S := { S with m := ls, tries := S.tries + 1 }) (gt hG' _).ok (fun s2 => ?_) (fun s2 _ => absurd (s1.symm.trans s2) (by decide))
        simp (maxSteps := 2000000) only [acH, C14, C13, go_sem, eq_self, and_self, Nat.le_refl, Nat.reduceLeDiff, Nat.reduceSub, Nat.reduceLT, Nat.reduceBEq, Nat.reduceAdd]
        refine sw_intro (fun _ => ?_) (fun h9 => absurd h9 (by simp))
        rintro _ rfl _ rfl c hc
        rw [show c = true from hc.trans (decide_eq_true rfl)]
        exact h
      · simp (maxSteps := 2000000) only [acH, go_sem, eq_self, Nat.reduceSub, Nat.reduceLT, Nat.reduceBEq, Nat.reduceAdd]
        refine c13_good (S := { S with m := ls, tries := S.tries + 1 }) (gt hG' _).ok (fun s2 => absurd (s2.symm.trans s1) (by decide)) (fun s2 r2 => ?_)
        simp (maxSteps := 2000000) only [acH, C14, C13, go_sem, eq_self, and_self, Nat.le_refl, Nat.reduceLeDiff, Nat.reduceSub, Nat.reduceLT, Nat.reduceBEq, Nat.reduceAdd]
        refine sw_intro (fun _ => ?_) (fun h9 => absurd h9 (by simp))
        rintro _ rfl _ rfl c hc
        rw [show c = true from hc.trans (decide_eq_true (congrArg (fun l : List UInt8 => (⟨l.toArray⟩ : ByteArray)) (encB_eq (gt hG _) (gt hG' _) ⟨rfl, rfl, rfl, rfl, rfl, rfl, rfl, rfl⟩)))]
        exact h
    · simp (maxSteps := 2000000) only [acH, out0, C10, go_sem, eq_self, Nat.le_refl, Nat.reduceLeDiff, Nat.reduceSub, Nat.reduceLT, Nat.reduceBEq, Nat.reduceAdd]
      refine ⟨by omega, by omega, ?_⟩
      refine c21_sl (S := { S with m := ls }) hG' (takeK_full ok hr hX h1 h2 h3 ?_)
      simp (maxSteps := 2000000) only [acH, out0, go_sem, eq_self, Nat.le_refl, Nat.reduceLeDiff, Nat.reduceSub, Nat.reduceLT, Nat.reduceBEq, Nat.reduceAdd]
      refine c13_good (S := S) hG.ok (fun s1 => ?_) (fun s1 r1 => ?_)
      · simp (maxSteps := 2000000) only [acH, go_sem, eq_self, Nat.reduceSub, Nat.reduceLT, Nat.reduceBEq, Nat.reduceAdd]
        refine c13_good (S := { S with m := ls }) hG'.ok (fun s2 => ?_) (fun s2 _ => absurd (s1.symm.trans s2) (by decide))
        simp (maxSteps := 2000000) only [acH, C14, C13, go_sem, eq_self, and_self, Nat.le_refl, Nat.reduceLeDiff, Nat.reduceSub, Nat.reduceLT, Nat.reduceBEq, Nat.reduceAdd]
        refine sw_intro (fun _ => ?_) (fun h9 => absurd h9 (by simp))
        rintro _ rfl _ rfl c hc
        rw [show c = true from hc.trans (decide_eq_true rfl)]
        exact h
      · simp (maxSteps := 2000000) only [acH, go_sem, eq_self, Nat.reduceSub, Nat.reduceLT, Nat.reduceBEq, Nat.reduceAdd]
        refine c13_good (S := { S with m := ls }) hG'.ok (fun s2 => absurd (s2.symm.trans s1) (by decide)) (fun s2 r2 => ?_)
        simp (maxSteps := 2000000) only [acH, C14, C13, go_sem, eq_self, and_self, Nat.le_refl, Nat.reduceLeDiff, Nat.reduceSub, Nat.reduceLT, Nat.reduceBEq, Nat.reduceAdd]
        refine sw_intro (fun _ => ?_) (fun h9 => absurd h9 (by simp))
        rintro _ rfl _ rfl c hc
        rw [show c = true from hc.trans (decide_eq_true (congrArg (fun l : List UInt8 => (⟨l.toArray⟩ : ByteArray)) (encB_eq hG hG' ⟨rfl, rfl, rfl, rfl, rfl, rfl, rfl, rfl⟩)))]
        exact h
    · simp (maxSteps := 2000000) only [acG, C10, go_sem, eq_self, Nat.le_refl, Nat.reduceLeDiff, Nat.reduceSub, Nat.reduceLT, Nat.reduceBEq, Nat.reduceAdd]
      refine ⟨by omega, by omega, ?_⟩
      refine c21_sl (S := { S with m := ls }) hG' (takeK_pois ok hr hX h1 h2 h3 ?_)
      simp (maxSteps := 2000000) only [acG, go_sem, eq_self, Nat.le_refl, Nat.reduceLeDiff, Nat.reduceSub, Nat.reduceLT, Nat.reduceBEq, Nat.reduceAdd]
      refine c13_good (S := { S with inb := r, poi := S.poi ++ [(f, s, k, xs)], tries := 0 }) (gp hG hr _).ok (fun s1 => ?_) (fun s1 r1 => ?_)
      · simp (maxSteps := 2000000) only [acH, go_sem, eq_self, Nat.reduceSub, Nat.reduceLT, Nat.reduceBEq, Nat.reduceAdd]
        refine c13_good (S := { S with m := ls, inb := r, poi := S.poi ++ [(f, s, k, xs)], tries := 0 }) (gp hG' hr _).ok (fun s2 => ?_) (fun s2 _ => absurd (s1.symm.trans s2) (by decide))
        simp (maxSteps := 2000000) only [acH, C14, C13, go_sem, eq_self, and_self, Nat.le_refl, Nat.reduceLeDiff, Nat.reduceSub, Nat.reduceLT, Nat.reduceBEq, Nat.reduceAdd]
        refine sw_intro (fun _ => ?_) (fun h9 => absurd h9 (by simp))
        rintro _ rfl _ rfl c hc
        rw [show c = true from hc.trans (decide_eq_true rfl)]
        exact h
      · simp (maxSteps := 2000000) only [acH, go_sem, eq_self, Nat.reduceSub, Nat.reduceLT, Nat.reduceBEq, Nat.reduceAdd]
        refine c13_good (S := { S with m := ls, inb := r, poi := S.poi ++ [(f, s, k, xs)], tries := 0 }) (gp hG' hr _).ok (fun s2 => absurd (s2.symm.trans s1) (by decide)) (fun s2 r2 => ?_)
        simp (maxSteps := 2000000) only [acH, C14, C13, go_sem, eq_self, and_self, Nat.le_refl, Nat.reduceLeDiff, Nat.reduceSub, Nat.reduceLT, Nat.reduceBEq, Nat.reduceAdd]
        refine sw_intro (fun _ => ?_) (fun h9 => absurd h9 (by simp))
        rintro _ rfl _ rfl c hc
        rw [show c = true from hc.trans (decide_eq_true (congrArg (fun l : List UInt8 => (⟨l.toArray⟩ : ByteArray)) (encB_eq (gp hG hr _) (gp hG' hr _) ⟨rfl, rfl, rfl, rfl, rfl, rfl, rfl, rfl⟩)))]
        exact h
    · simp (maxSteps := 2000000) only [acH, out0, C10, go_sem, eq_self, Nat.le_refl, Nat.reduceLeDiff, Nat.reduceSub, Nat.reduceLT, Nat.reduceBEq, Nat.reduceAdd]
      refine ⟨by omega, by omega, ?_⟩
      refine c21_sl (S := { S with m := ls }) hG' (takeK_room ok hr hX h0 hs2 ?_)
      simp (maxSteps := 2000000) only [acH, out0, go_sem, eq_self, Nat.le_refl, Nat.reduceLeDiff, Nat.reduceSub, Nat.reduceLT, Nat.reduceBEq, Nat.reduceAdd]
      refine c13_good (S := S) hG.ok (fun s1 => ?_) (fun s1 r1 => ?_)
      · simp (maxSteps := 2000000) only [acH, go_sem, eq_self, Nat.reduceSub, Nat.reduceLT, Nat.reduceBEq, Nat.reduceAdd]
        refine c13_good (S := { S with m := ls }) hG'.ok (fun s2 => ?_) (fun s2 _ => absurd (s1.symm.trans s2) (by decide))
        simp (maxSteps := 2000000) only [acH, C14, C13, go_sem, eq_self, and_self, Nat.le_refl, Nat.reduceLeDiff, Nat.reduceSub, Nat.reduceLT, Nat.reduceBEq, Nat.reduceAdd]
        refine sw_intro (fun _ => ?_) (fun h9 => absurd h9 (by simp))
        rintro _ rfl _ rfl c hc
        rw [show c = true from hc.trans (decide_eq_true rfl)]
        exact h
      · simp (maxSteps := 2000000) only [acH, go_sem, eq_self, Nat.reduceSub, Nat.reduceLT, Nat.reduceBEq, Nat.reduceAdd]
        refine c13_good (S := { S with m := ls }) hG'.ok (fun s2 => absurd (s2.symm.trans s1) (by decide)) (fun s2 r2 => ?_)
        simp (maxSteps := 2000000) only [acH, C14, C13, go_sem, eq_self, and_self, Nat.le_refl, Nat.reduceLeDiff, Nat.reduceSub, Nat.reduceLT, Nat.reduceBEq, Nat.reduceAdd]
        refine sw_intro (fun _ => ?_) (fun h9 => absurd h9 (by simp))
        rintro _ rfl _ rfl c hc
        rw [show c = true from hc.trans (decide_eq_true (congrArg (fun l : List UInt8 => (⟨l.toArray⟩ : ByteArray)) (encB_eq hG hG' ⟨rfl, rfl, rfl, rfl, rfl, rfl, rfl, rfl⟩)))]
        exact h
    · simp (maxSteps := 2000000) only [doneH, C10, go_sem, eq_self, Nat.le_refl, Nat.reduceLeDiff, Nat.reduceSub, Nat.reduceLT, Nat.reduceBEq, Nat.reduceAdd]
      refine ⟨by omega, by omega, ?_⟩
      obtain ⟨ls2, g2⟩ := done_ok hG ok hr hX h0 hs2
      refine c21_sl (S := { S with m := ls }) hG' (takeK_done ok hr hX h0 hs2 ?_)
      simp (maxSteps := 2000000) only [doneH, go_sem, eq_self, Nat.le_refl, Nat.reduceLeDiff, Nat.reduceSub, Nat.reduceLT, Nat.reduceBEq, Nat.reduceAdd]
      refine c13_good (S := doneS S r X.1.ev p) g2.ok (fun s1 => ?_) (fun s1 r1 => ?_)
      · simp (maxSteps := 2000000) only [acH, go_sem, eq_self, Nat.reduceSub, Nat.reduceLT, Nat.reduceBEq, Nat.reduceAdd]
        refine c13_good (S := doneS S r X.1.ev p) g2.ok (fun s2 => ?_) (fun s2 _ => absurd (s1.symm.trans s2) (by decide))
        simp (maxSteps := 2000000) only [acH, C14, C13, go_sem, eq_self, and_self, Nat.le_refl, Nat.reduceLeDiff, Nat.reduceSub, Nat.reduceLT, Nat.reduceBEq, Nat.reduceAdd]
        refine sw_intro (fun _ => ?_) (fun h9 => absurd h9 (by simp))
        rintro _ rfl _ rfl c hc
        rw [show c = true from hc.trans (decide_eq_true rfl)]
        exact h
      · simp (maxSteps := 2000000) only [acH, go_sem, eq_self, Nat.reduceSub, Nat.reduceLT, Nat.reduceBEq, Nat.reduceAdd]
        refine c13_good (S := doneS S r X.1.ev p) g2.ok (fun s2 => absurd (s2.symm.trans s1) (by decide)) (fun s2 r2 => ?_)
        simp (maxSteps := 2000000) only [acH, C14, C13, go_sem, eq_self, and_self, Nat.le_refl, Nat.reduceLeDiff, Nat.reduceSub, Nat.reduceLT, Nat.reduceBEq, Nat.reduceAdd]
        refine sw_intro (fun _ => ?_) (fun h9 => absurd h9 (by simp))
        rintro _ rfl _ rfl c hc
        rw [show c = true from hc.trans (decide_eq_true (congrArg (fun l : List UInt8 => (⟨l.toArray⟩ : ByteArray)) (encB_eq g2 g2 ⟨rfl, rfl, rfl, rfl, rfl, rfl, rfl, rfl⟩)))]
        exact h
  · exact h.elim
end Go.V
