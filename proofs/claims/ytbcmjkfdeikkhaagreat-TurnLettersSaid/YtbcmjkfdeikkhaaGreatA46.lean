/- A part of the proof layer, or functions of the given program in it: contracts and their proofs. -/
import Derived.Test.YtbcmjkfdeikkhaaGreatA45
namespace Go.V
open Go.Proofs
set_option maxRecDepth 100000
set_option maxHeartbeats 4000000
set_option linter.unusedSimpArgs false
set_option linter.unnecessarySimpa false
set_option linter.unusedVariables false
/-! ### both actors, made of parts -/
/-- The document's actor behind the other one. -/
def wc8 (mv : Bool) (S : ActS) : List SB := [.struct [.ptr 9 0, .ptr 11 0, .ptr 13 0, .int .i64 S.tries, .sl true 56 LetT S.poi], .struct [.arr 8 (.int .i64) S.b, .own 10, .int .u64 S.v], .row mv 16 EvT S.ev, .struct [.own 12], .row mv 56 LetT S.inb,
  .struct [.str S.o, .own 14, .own 15], .row mv 72 OutT S.l, .row mv 24 LastT S.m]
def twoH (S : ActS) (ls : List LastT.den) : List SB := acH true S ++ wc8 true { S with m := ls }
structure GoodA (S : ActS) (ls : List LastT.den) (B : Int) : Prop where
  b8 : S.b.length = 8
  ev : S.ev.all okEv = true
  e16 : S.ev.length ≤ 16
  in8 : S.inb.length ≤ 8
  inf : S.inb.all fmL = true
  inv : Inv S.o S.l ls B
  rel : Rel S.m ls
theorem GoodA.ok {S : ActS} {ls : List LastT.den} {B : Int} (h : GoodA S ls B) : OkA S := ⟨h.b8, h.ev, h.e16, h.in8, h.inf, h.inv.outOk.rel h.inv.keys h.rel⟩
structure PartsOk (letters : List LetT.den) (to : List ByteArray) (events : List EvT.den) (poison : List LetT.den) : Prop where
  l : 0 ≤ letters.length
  t : 0 ≤ to.length
  e : events.length ≤ 1000
  p : 0 ≤ poison.length
/-- Of -/
def C8 : Contract := fun args hp K => match args, hp with
  | [.str key, .sl p1 56 (.pair .str (.pair (.int .u64) (.pair (.int .i64) (.sl 8 (.int .i64))))) letters, .sl p2 16 .str to, .sl p3 16 (.pair (.int .i64) (.int .i64)) events, .int .i64 tries, .sl p4 56 (.pair .str (.pair (.int .u64) (.pair (.int .i64) (.sl 8 (.int .i64))))) poison], [] =>
      PartsOk letters to events poison ∧ (keyOk key = false → K (.tup [.nilp, .nilp]) []) ∧
      (keyOk key = true → ∀ S ls, S.o = key → S.tries = tries → S.poi = poison → S.inb.length ≤ (letters : List LetT.den).length → GoodA S ls 140737488355328 → K (.tup [.ptr 0 0, .ptr 8 0]) (twoH S ls))
  | _, _ => False
structure G8 where
  i : Nat
  inb : List LetT.den
def A8 (key : ByteArray) (p1 p2 p3 p4 : Bool) (letters : List LetT.den) (to : List ByteArray) (events : List EvT.den) (tries : Int) (poison : List LetT.den) : LoopAnn := { G := G8, I := fun g => ⟨[(1, .sl p1 56 LetT letters), (2, .sl p2 16 .str to), (3, .sl p3 16 EvT events), (4, .int .i64 tries), (5, .sl p4 56 LetT poison), (14, .ptr 0 0), (16, .ptr 8 0), (43, .int .i64 letters.length), (44, .int .i64 g.i)], twoH { (newS key) with inb := g.inb } []⟩, R := fun _ g => g.i ≤ letters.length ∧ g.inb.length ≤ g.i ∧ g.inb.length ≤ 8 ∧ g.inb.all fmL = true, μ := fun g => letters.length - g.i }
theorem A8_I {key p1 p2 p3 p4 letters to events tries poison} (g : G8) : (A8 key p1 p2 p3 p4 letters to events tries poison).I g = ⟨[(1, .sl p1 56 LetT letters), (2, .sl p2 16 .str to), (3, .sl p3 16 EvT events), (4, .int .i64 tries), (5, .sl p4 56 LetT poison), (14, .ptr 0 0), (16, .ptr 8 0), (43, .int .i64 letters.length), (44, .int .i64 g.i)], twoH { (newS key) with inb := g.inb } []⟩ := rfl
structure H8 where
  i : Nat
  l : List OutT.den
  m : List (ByteArray × Int)
  ls : List LastT.den
def B8 (key : ByteArray) (p2 p3 p4 : Bool) (to : List ByteArray) (events : List EvT.den) (tries : Int) (poison : List LetT.den) : LoopAnn := { G := List LetT.den × H8, I := fun g => ⟨[(2, .sl p2 16 .str to), (3, .sl p3 16 EvT events), (4, .int .i64 tries), (5, .sl p4 56 LetT poison), (14, .ptr 0 0), (16, .ptr 8 0), (67, .int .i64 to.length), (68, .int .i64 g.2.i)], twoH { (newS key) with inb := g.1, l := g.2.l, m := g.2.m } g.2.ls⟩, R := fun g0 g => g.1 = g0.1 ∧ g.2.i ≤ to.length ∧ Inv key g.2.l g.2.ls g.2.i ∧ Rel g.2.m g.2.ls, μ := fun g => to.length - g.2.i }
theorem B8_I {key p2 p3 p4 to events tries poison} (g : List LetT.den × H8) : (B8 key p2 p3 p4 to events tries poison).I g = ⟨[(2, .sl p2 16 .str to), (3, .sl p3 16 EvT events), (4, .int .i64 tries), (5, .sl p4 56 LetT poison), (14, .ptr 0 0), (16, .ptr 8 0), (67, .int .i64 to.length), (68, .int .i64 g.2.i)], twoH { (newS key) with inb := g.1, l := g.2.l, m := g.2.m } g.2.ls⟩ := rfl
def D8 (key : ByteArray) (p3 p4 : Bool) (events : List EvT.den) (tries : Int) (poison : List LetT.den) : LoopAnn := { G := (ActS × List LastT.den) × Nat, I := fun g => ⟨[(3, .sl p3 16 EvT events), (4, .int .i64 tries), (5, .sl p4 56 LetT poison), (14, .ptr 0 0), (16, .ptr 8 0), (20, .own 16), (97, .int .i64 events.length), (98, .int .i64 g.2)], twoH g.1.1 g.1.2 ++ [.row true 16 EvT (events.take g.2)]⟩, R := fun g0 g => g.1 = g0.1 ∧ g.2 ≤ events.length, μ := fun g => events.length - g.2 }
theorem D8_I {key p3 p4 events tries poison} (g : (ActS × List LastT.den) × Nat) : (D8 key p3 p4 events tries poison).I g = ⟨[(3, .sl p3 16 EvT events), (4, .int .i64 tries), (5, .sl p4 56 LetT poison), (14, .ptr 0 0), (16, .ptr 8 0), (20, .own 16), (97, .int .i64 events.length), (98, .int .i64 g.2)], twoH g.1.1 g.1.2 ++ [.row true 16 EvT (events.take g.2)]⟩ := rfl
theorem s8 : Sound Tryz.prog 8 C8 := by
  refine sound_of_okF ok8 (Γ := [(18, C18), (22, C22), (19, C19), (23, C23), (24, C24), (25, C25), (26, C26), (27, C27), (28, C28)]) (.cons s18 (callable_of_okF ok18) (.cons s22 (callable_of_okF ok22) (.cons s19 (callable_of_okF ok19) (.cons s23 (callable_of_okF ok23) (.cons s24 (callable_of_okF ok24) (.cons s25 (callable_of_okF ok25) (.cons s26 (callable_of_okF ok26) (.cons s27 (callable_of_okF ok27) (.cons s28 (callable_of_okF ok28) .nil))))))))) ?_
  intro args hp K h
  unfold C8 at h
  split at h
  · rename_i key p1 letters p2 to p3 events tries p4 poison
    obtain ⟨ok, h1, h2⟩ := h
    refine ⟨by simp, [(1, A8 key p1 p2 p3 p4 letters to events tries poison), (2, B8 key p2 p3 p4 to events tries poison), (3, D8 key p3 p4 events tries poison)], ?_⟩
    simp (maxSteps := 2000000) only [a8, r8, C18, C22, acH, wcH, newS, go_sem, eq_self, and_self, Int.natCast_pos, Int.le_refl, Nat.le_refl, Int.natCast_nonneg, Int.ofNat_lt, Int.ofNat_le, Int.reduceLT, Int.reduceLE, Int.reduceEq, Int.reduceNe, Int.reduceAdd, Int.reduceSub, Int.reduceMul, Int.reduceToNat, Int.reduceNeg, Nat.reduceEqDiff, Nat.reduceLeDiff, Nat.reduceSub, Nat.reduceMul, Nat.reduceLT, Nat.reduceBEq, Nat.reduceAdd]
    have hmx := maxLen_val
    have nk : keyOk key = true → keyOk key = false → False := fun a b => by rw [a] at b; cases b
    refine ⟨fun hk => ⟨fun _ => ?_, fun h9 => (nk hk h9).elim⟩, fun hk => ⟨fun h9 => (nk h9 hk).elim, fun _ => h1 hk⟩⟩
    have h2 := h2 hk
    have hl1 := ok.l
    have hl2 := ok.t
    have hl3 := ok.e
    have hl4 := ok.p
    rintro _ _ m rfl
    refine loop_intro (A := A8 key p1 p2 p3 p4 letters to events tries poison) (⟨0, []⟩ : G8) ?_ ⟨Nat.zero_le _, by simp, by simp, by simp⟩ ?_
    · simp (maxSteps := 2000000) only [A8_I, twoH, acH, wc8, newS, go_sem, eq_self, and_self, Int.natCast_pos, Int.le_refl, Nat.le_refl, Int.natCast_nonneg, Int.ofNat_lt, Int.ofNat_le, Int.reduceLT, Int.reduceLE, Int.reduceEq, Int.reduceNe, Int.reduceAdd, Int.reduceSub, Int.reduceMul, Int.reduceToNat, Int.reduceNeg, Nat.reduceEqDiff, Nat.reduceLeDiff, Nat.reduceSub, Nat.reduceMul, Nat.reduceLT, Nat.reduceBEq, Nat.reduceAdd]
      rfl
    · rintro ⟨i, inb⟩ ⟨hi, hii, hi8, hif⟩
      simp only at hi hii hi8 hif
      simp (maxSteps := 2000000) only [A8_I, twoH, acH, wc8, newS, C19, C23, inH, go_sem, eq_self, and_self, Int.natCast_pos, Int.le_refl, Nat.le_refl, Int.natCast_nonneg, Int.ofNat_lt, Int.ofNat_le, Int.reduceLT, Int.reduceLE, Int.reduceEq, Int.reduceNe, Int.reduceAdd, Int.reduceSub, Int.reduceMul, Int.reduceToNat, Int.reduceNeg, Nat.reduceEqDiff, Nat.reduceLeDiff, Nat.reduceSub, Nat.reduceMul, Nat.reduceLT, Nat.reduceBEq, Nat.reduceAdd]
      have lp : ∀ (inb' : List LetT.den) (rest : List SB), inb'.length ≤ i + 1 → inb'.length ≤ 8 → inb'.all fmL = true → i < letters.length → inR .i64 (i : Int) → inR .i64 1 → ∀ m : Int, m = IntKind.i64.wrap ((i : Int) + 1) → lpE (A8 key p1 p2 p3 p4 letters to events tries poison) 0 [1, 2, 3, 4, 5, 14, 16, 43, 44] (⟨0, []⟩ : G8) (⟨i, inb⟩ : G8)
          ⟨[(1, .sl p1 56 LetT letters), (2, .sl p2 16 .str to), (3, .sl p3 16 EvT events), (4, .int .i64 tries), (5, .sl p4 56 LetT poison), (14, .ptr 0 0), (16, .ptr 8 0), (43, .int .i64 letters.length), (44, .int .i64 m)],
            .struct [.ptr 1 0, .ptr 3 0, .ptr 5 0, .int .i64 0, .sl true 56 LetT []] :: .struct [.arr 8 (.int .i64) (List.replicate 8 0), .own 2, .int .u64 0] :: .row true 16 EvT [] :: .struct [.own 4] :: .row true 56 LetT inb' ::
            .struct [.str key, .own 6, .mp 7] :: .row true 72 OutT [] :: .map false .str (.int .u64) [] ::
            .struct [.ptr 9 0, .ptr 11 0, .ptr 13 0, .int .i64 0, .sl true 56 LetT []] :: .struct [.arr 8 (.int .i64) (List.replicate 8 0), .own 10, .int .u64 0] :: .row true 16 EvT [] :: .struct [.own 12] :: .row true 56 LetT inb' ::
            .struct [.str key, .own 14, .own 15] :: .row true 72 OutT [] :: .row true 24 LastT [] :: rest⟩ := by
        intro inb' rest q0 q1 q2 q3 _ _ m hm
        rw [w64 (by omega)] at hm
        subst hm
        refine lpE_intro (A := A8 key p1 p2 p3 p4 letters to events tries poison) (⟨i + 1, inb'⟩ : G8) ?_ ⟨q3, q0, q1, q2⟩ (by show letters.length - (i + 1) < letters.length - i; omega)
        simp (maxSteps := 2000000) only [A8_I, twoH, acH, wc8, newS, go_sem, eq_self, and_self, Int.natCast_pos, Int.le_refl, Nat.le_refl, Int.natCast_nonneg, Int.ofNat_lt, Int.ofNat_le, Int.reduceLT, Int.reduceLE, Int.reduceEq, Int.reduceNe, Int.reduceAdd, Int.reduceSub, Int.reduceMul, Int.reduceToNat, Int.reduceNeg, Nat.reduceEqDiff, Nat.reduceLeDiff, Nat.reduceSub, Nat.reduceMul, Nat.reduceLT, Nat.reduceBEq, Nat.reduceAdd]
        rfl
      rintro c rfl
      refine sw_intro (fun hc => ?_) (fun hc => ?_) <;> simp only [decide_eq_true_eq, decide_eq_false_iff_not] at hc
      · have hff : ∀ {x : Bool}, x = false → x = true → False := fun a b => by rw [a] at b; cases b
        have hpush : fmL ((elt LetT letters i).1, (elt LetT letters i).2.1, (elt LetT letters i).2.2.1, (elt LetT letters i).2.2.2) = true → inb.length < 8 → (inb ++ [((elt LetT letters i).1, (elt LetT letters i).2.1, (elt LetT letters i).2.2.1, (elt LetT letters i).2.2.2)]).length ≤ 8 ∧ (inb ++ [((elt LetT letters i).1, (elt LetT letters i).2.1, (elt LetT letters i).2.2.1, (elt LetT letters i).2.2.2)]).all fmL = true := fun a b =>
          ⟨by simp only [List.length_append, List.length_cons, List.length_nil]; omega, by rw [List.all_append, hif]; simp [a]⟩
        refine nd_intro hc ⟨hi8, fun f1 => nd_intro hc ⟨hi8, fun f2 => lp inb _ (by omega) hi8 hif hc, fun f2 => (hff f1 f2).elim, fun f2 => (hff f1 f2).elim⟩, fun f1 g1 => nd_intro hc ⟨hi8, fun f2 => (hff f2 f1).elim, fun f2 g2 => lp inb _ (by omega) hi8 hif hc, fun f2 g2 => absurd g2 (by omega)⟩, fun f1 g1 => nd_intro hc ⟨hi8, fun f2 => (hff f2 f1).elim, fun f2 g2 => absurd g2 (by omega), fun f2 g2 => lp _ _ (by simp only [List.length_append, List.length_cons, List.length_nil]; omega) (hpush f1 g1).1 (hpush f1 g1).2 hc⟩⟩
      · rintro _ _ m rfl
        refine loop_intro (A := B8 key p2 p3 p4 to events tries poison) (inb, (⟨0, [], [], []⟩ : H8)) ?_ ⟨rfl, Nat.zero_le _, Inv.new hk, Rel.nil⟩ ?_
        · simp (maxSteps := 2000000) only [B8_I, twoH, acH, wc8, newS, go_sem, eq_self, and_self, Int.natCast_pos, Int.le_refl, Nat.le_refl, Int.natCast_nonneg, Int.ofNat_lt, Int.ofNat_le, Int.reduceLT, Int.reduceLE, Int.reduceEq, Int.reduceNe, Int.reduceAdd, Int.reduceSub, Int.reduceMul, Int.reduceToNat, Int.reduceNeg, Nat.reduceEqDiff, Nat.reduceLeDiff, Nat.reduceSub, Nat.reduceMul, Nat.reduceLT, Nat.reduceBEq, Nat.reduceAdd]
          rfl
        · rintro ⟨inb', ⟨i2, l, m, ls⟩⟩ ⟨e1, hi2, hI, hr⟩
          simp only at e1 hi2 hI hr
          subst e1
          simp (maxSteps := 2000000) only [B8_I, twoH, acH, wc8, newS, C24, C25, obH, rfH, go_sem, eq_self, and_self, Int.natCast_pos, Int.le_refl, Nat.le_refl, Int.natCast_nonneg, Int.ofNat_lt, Int.ofNat_le, Int.reduceLT, Int.reduceLE, Int.reduceEq, Int.reduceNe, Int.reduceAdd, Int.reduceSub, Int.reduceMul, Int.reduceToNat, Int.reduceNeg, Nat.reduceEqDiff, Nat.reduceLeDiff, Nat.reduceSub, Nat.reduceMul, Nat.reduceLT, Nat.reduceBEq, Nat.reduceAdd]
          have lp2 : ∀ (l' : List OutT.den) (m' : List (ByteArray × Int)) (ls' : List LastT.den) (rest : List SB), Inv key l' ls' ((i2 + 1 : Nat) : Int) → Rel m' ls' → i2 < to.length → inR .i64 (i2 : Int) → inR .i64 1 → ∀ q : Int, q = IntKind.i64.wrap ((i2 : Int) + 1) → lpE (B8 key p2 p3 p4 to events tries poison) 0 [2, 3, 4, 5, 14, 16, 67, 68] (inb', (⟨0, [], [], []⟩ : H8)) (inb', (⟨i2, l, m, ls⟩ : H8))
              ⟨[(2, .sl p2 16 .str to), (3, .sl p3 16 EvT events), (4, .int .i64 tries), (5, .sl p4 56 LetT poison), (14, .ptr 0 0), (16, .ptr 8 0), (67, .int .i64 to.length), (68, .int .i64 q)],
                .struct [.ptr 1 0, .ptr 3 0, .ptr 5 0, .int .i64 0, .sl true 56 LetT []] :: .struct [.arr 8 (.int .i64) (List.replicate 8 0), .own 2, .int .u64 0] :: .row true 16 EvT [] :: .struct [.own 4] :: .row true 56 LetT inb' ::
                .struct [.str key, .own 6, .mp 7] :: .row true 72 OutT l' :: .map false .str (.int .u64) m' ::
                .struct [.ptr 9 0, .ptr 11 0, .ptr 13 0, .int .i64 0, .sl true 56 LetT []] :: .struct [.arr 8 (.int .i64) (List.replicate 8 0), .own 10, .int .u64 0] :: .row true 16 EvT [] :: .struct [.own 12] :: .row true 56 LetT inb' ::
                .struct [.str key, .own 14, .own 15] :: .row true 72 OutT l' :: .row true 24 LastT ls' :: rest⟩ := by
            intro l' m' ls' rest q1 q2 q3 _ _ q hq
            rw [w64 (by omega)] at hq
            subst hq
            refine lpE_intro (A := B8 key p2 p3 p4 to events tries poison) (inb', (⟨i2 + 1, l', m', ls'⟩ : H8)) ?_ ⟨rfl, q3, q1, q2⟩ (by show to.length - (i2 + 1) < to.length - i2; omega)
            simp (maxSteps := 2000000) only [B8_I, twoH, acH, wc8, newS, go_sem, eq_self, and_self, Int.natCast_pos, Int.le_refl, Nat.le_refl, Int.natCast_nonneg, Int.ofNat_lt, Int.ofNat_le, Int.reduceLT, Int.reduceLE, Int.reduceEq, Int.reduceNe, Int.reduceAdd, Int.reduceSub, Int.reduceMul, Int.reduceToNat, Int.reduceNeg, Nat.reduceEqDiff, Nat.reduceLeDiff, Nat.reduceSub, Nat.reduceMul, Nat.reduceLT, Nat.reduceBEq, Nat.reduceAdd]
            rfl
          rintro c rfl
          refine sw_intro (fun hc => ?_) (fun hc => ?_) <;> simp only [decide_eq_true_eq, decide_eq_false_iff_not] at hc
          · have hl32 := hI.l32
            have hm64 := hI.m64
            have hml := hr.1
            have hne := keyOk_ne hk
            have hInx : Inv key l ls ((i2 + 1 : Nat) : Int) := hI.mono (by omega)
            have hlk := hr.2 (elt .str to i2)
            have conv : (32 ≤ l.length ∨ (lookM .str (.int .u64) m (elt .str to i2) = none ∧ 64 ≤ m.length)) ↔ (32 ≤ l.length ∨ (thereL ls (elt .str to i2) = none ∧ 64 ≤ ls.length)) := by rw [hlk, hml]
            refine nd_intro hc ⟨rfl, hne, by omega, by omega, fun a => nd_intro hc ⟨rfl, by omega, by omega, fun b => lp2 l m ls _ hInx hr hc, fun b => absurd b a, fun b => absurd b a⟩,
              fun a f => nd_intro hc ⟨rfl, by omega, by omega, fun b => absurd a b, fun b g => lp2 l m ls _ hInx hr hc, fun b g => absurd (conv.1 f) g⟩,
              fun a f s hs => nd_intro hc ⟨rfl, by omega, by omega, fun b => absurd a b, fun b g => absurd (conv.2 g) f, fun b g s' hs' => ?_⟩⟩
            have hss : s' = s := by rw [hs, hs', hlk]
            subst hss
            have hl' : l.length < 32 := by
              rcases Nat.lt_or_ge l.length 32 with h | h
              · exact h
              · exact absurd (.inl h) g
            have hls' : (setF ls (elt .str to i2) s').length ≤ 64 := by
              rw [setF_eq, setR_length]
              split
              · rename_i hn
                rcases Nat.lt_or_ge ls.length 64 with h | h
                · omega
                · exact absurd (.inr ⟨by rw [thereL_eq]; exact hn, h⟩) g
              · exact hm64
            have hI2 := hI.send (xs := [(i2 : Int)]) (by omega) (by omega) a (by simp) hl' hls' (i2 : Int) hs'
            exact lp2 _ _ _ _ (hI2.mono (by omega)) (hr.set _ s') hc
          · obtain rfl : i2 = to.length := by omega
            have hI3 : Inv key l ls 140737488355328 := hI.mono (by omega)
            rintro _ _ q rfl
            refine loop_intro (A := D8 key p3 p4 events tries poison) ((({ (newS key) with inb := inb', l := l, m := m } : ActS), ls), (0 : Nat)) ?_ ⟨rfl, Nat.zero_le _⟩ ?_
            · simp (maxSteps := 2000000) only [D8_I, twoH, acH, wc8, newS, go_sem, eq_self, and_self, Int.natCast_pos, Int.le_refl, Nat.le_refl, Int.natCast_nonneg, Int.ofNat_lt, Int.ofNat_le, Int.reduceLT, Int.reduceLE, Int.reduceEq, Int.reduceNe, Int.reduceAdd, Int.reduceSub, Int.reduceMul, Int.reduceToNat, Int.reduceNeg, Nat.reduceEqDiff, Nat.reduceLeDiff, Nat.reduceSub, Nat.reduceMul, Nat.reduceLT, Nat.reduceBEq, Nat.reduceAdd]
              rfl
            · rintro ⟨⟨S, ls2⟩, i3⟩ ⟨e1, hi3⟩
              simp only [Prod.mk.injEq] at e1 hi3
              obtain ⟨rfl, rfl⟩ := e1
              simp (maxSteps := 2000000) only [D8_I, twoH, acH, wc8, newS, go_sem, eq_self, and_self, Int.natCast_pos, Int.le_refl, Nat.le_refl, Int.natCast_nonneg, Int.ofNat_lt, Int.ofNat_le, Int.reduceLT, Int.reduceLE, Int.reduceEq, Int.reduceNe, Int.reduceAdd, Int.reduceSub, Int.reduceMul, Int.reduceToNat, Int.reduceNeg, Nat.reduceEqDiff, Nat.reduceLeDiff, Nat.reduceSub, Nat.reduceMul, Nat.reduceLT, Nat.reduceBEq, Nat.reduceAdd]
              rintro c rfl
              refine sw_intro (fun hc3 => ?_) (fun hc3 => ?_) <;> simp only [decide_eq_true_eq, decide_eq_false_iff_not] at hc3
              · refine nd_intro hc3 ?_
                have hl : (events.take i3).length = i3 := by rw [List.length_take]; omega
                rw [hl]
                refine ⟨fun _ => by omega, ?_⟩
                rintro _ _ _ q hq
                rw [w64 (by omega)] at hq
                subst hq
                refine lpE_intro (A := D8 key p3 p4 events tries poison) ((({ (newS key) with inb := inb', l := l, m := m } : ActS), ls2), i3 + 1) ?_ ⟨rfl, hc3⟩ (by show events.length - (i3 + 1) < events.length - i3; omega)
                simp (maxSteps := 2000000) only [D8_I, twoH, acH, wc8, newS, go_sem, eq_self, and_self, Int.natCast_pos, Int.le_refl, Nat.le_refl, Int.natCast_nonneg, Int.ofNat_lt, Int.ofNat_le, Int.reduceLT, Int.reduceLE, Int.reduceEq, Int.reduceNe, Int.reduceAdd, Int.reduceSub, Int.reduceMul, Int.reduceToNat, Int.reduceNeg, Nat.reduceEqDiff, Nat.reduceLeDiff, Nat.reduceSub, Nat.reduceMul, Nat.reduceLT, Nat.reduceBEq, Nat.reduceAdd]
                rw [← take_elt (t := EvT) hc3]
                rfl
              · obtain rfl : i3 = events.length := by omega
                rw [List.take_length]
                refine ⟨rfl, ?_⟩
                simp (maxSteps := 2000000) only [C26, C27, C28, jH, go_sem, eq_self, and_self, Int.natCast_pos, Int.le_refl, Nat.le_refl, Int.natCast_nonneg, Int.ofNat_lt, Int.ofNat_le, Int.reduceLT, Int.reduceLE, Int.reduceEq, Int.reduceNe, Int.reduceAdd, Int.reduceSub, Int.reduceMul, Int.reduceToNat, Int.reduceNeg, Nat.reduceEqDiff, Nat.reduceLeDiff, Nat.reduceSub, Nat.reduceMul, Nat.reduceLT, Nat.reduceBEq, Nat.reduceAdd]
                have hff : ∀ {x : Bool}, x = false → x = true → False := fun a b => by rw [a] at b; cases b
                have hinb : inb'.length ≤ letters.length := by omega
                have r8 : (List.replicate 8 (0 : Int)).length = 8 := by simp
                have G1 : GoodA { (newS key) with inb := inb', l := l, m := m, tries := tries, poi := poison } ls2 140737488355328 := ⟨r8, rfl, Nat.zero_le _, hi8, hif, hI3, hr⟩
                refine ⟨r8, by omega, fun a => ⟨r8, by omega, fun b => ⟨by omega, by omega, h2 _ ls2 rfl rfl rfl hinb G1⟩, fun b => (hff a b).elim⟩, fun a => ⟨r8, by omega, fun b => (hff b a).elim, fun b => ⟨by omega, by omega, ?_⟩⟩⟩
                have jl := jAdd_len (List.replicate 8 0) [] events
                have jo := jAdd_ok (b := List.replicate 8 0) (ev := []) (l := events) rfl a
                have G2 : GoodA { (newS key) with inb := inb', l := l, m := m, tries := tries, poi := poison, b := (jAdd (List.replicate 8 0) [] events).1, ev := (jAdd (List.replicate 8 0) [] events).2, v := (events.length : Nat) } ls2 140737488355328 := ⟨jl.2.trans r8, jo, jl.1, hi8, hif, hI3, hr⟩
                rw [Int.zero_add, wu64 (by omega)]
                exact h2 _ ls2 rfl rfl rfl hinb G2
  · exact h.elim
end Go.V
