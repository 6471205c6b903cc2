/- A part of the proof layer, or functions of the given program in it: contracts and their proofs. -/
import Derived.Test.YtbcmjkfdeikkhaaGreatMB9
namespace Go.V
open Go.Proofs
set_option maxRecDepth 100000
set_option maxHeartbeats 16000000
set_option linter.unusedSimpArgs false
set_option linter.unnecessarySimpa false
set_option linter.unusedVariables false
section use
variable {K : SV → List SB → Prop} {S W : ActS} {names : List ByteArray} {code : List EvT.den} {now : Int} {p5 p6 : Bool}
theorem use6 (k : K (.bool true) []) : C6 [] [] K := ⟨rfl, rfl, k⟩
theorem use10 (h : names.length ≤ 100000 ∧ code.length ≤ 100000) (k : K (.agg [.sl true 16 .str names, .sl true 16 EvT code]) []) : C10 [.agg [.sl p5 16 .str names, .sl p6 16 EvT code]] [] K :=
 .inr ⟨p5, names, rfl, .inr ⟨p6, code, rfl, h.1, h.2, k⟩⟩
theorem use9 {ls : List LastT.den} {B : Int} (g : GoodA S ls B) (h : TakeK S ls names code now K) : C9 [.agg [.sl true 16 .str names, .sl true 16 EvT code], .ptr 0 0, .int .i64 now] (acH false S) K := c21_sl g h
theorem use12 (g : GoodW W) (h : TakeR W names code now K) : C12 [.agg [.sl true 16 .str names, .sl true 16 EvT code], .ptr 0 0, .int .i64 now] (wcH false W) K := ⟨W, rfl, g, h⟩
theorem use14 {d p : Bool} {e n : Int} {q : Bool} {l : List TimT.den} (k : K (.agg [.bool d, .bool p, .int .i64 e, .int .i64 n, .sl true 48 TimT l]) []) : C14 [.agg [.bool d, .bool p, .int .i64 e, .int .i64 n, .sl q 48 TimT l]] [] K := .inr ⟨q, l, rfl, k⟩
theorem use14z {d p : Bool} {e n : Int} (k : K (.agg [.bool d, .bool p, .int .i64 e, .int .i64 n, .sl true 48 TimT []]) []) : C14 [.agg [.bool d, .bool p, .int .i64 e, .int .i64 n, .nils]] [] K := .inl ⟨rfl, k⟩
theorem use13 {d p : Bool} {e n : Int} {q q' : Bool} {l : List TimT.den} (k : K (.bool true) []) : C13 [.agg [.bool d, .bool p, .int .i64 e, .int .i64 n, .sl q 48 TimT l], .agg [.bool d, .bool p, .int .i64 e, .int .i64 n, .sl q' 48 TimT l]] [] K :=
 .inr ⟨q, l, rfl, .inr ⟨q', l, rfl, by simpa using k⟩⟩
theorem use13z {d p : Bool} {e n : Int} {q : Bool} (k : K (.bool true) []) : C13 [.agg [.bool d, .bool p, .int .i64 e, .int .i64 n, .sl q 48 TimT []], .agg [.bool d, .bool p, .int .i64 e, .int .i64 n, .nils]] [] K :=
 .inr ⟨q, [], rfl, .inl ⟨rfl, by simpa using k⟩⟩
theorem use15 {ls : List LastT.den} (h : SameOk S ls) (k : K (.bool true) (sideH S ls)) : C15 [.ptr 0 0, .ptr 8 0] (sideH S ls) K := ⟨S, ls, rfl, h, k⟩
end use
def ac1 (S : ActS) : List SB := [.struct [.ptr 2 0, .ptr 4 0, .ptr 6 0, .int .i64 S.tries, .sl true 56 LetT S.poi], .struct [.arr 8 (.int .i64) S.b, .own 3, .int .u64 S.v], .row true 16 EvT S.ev, .struct [.own 5], .row true 56 LetT S.inb, .struct [.str S.o, .own 7, .mp 8], .row true 72 OutT S.l, .map false .str (.int .u64) S.m]
def wc1 (S : ActS) (ls : List LastT.den) : List SB := [.struct [.ptr 10 0, .ptr 12 0, .ptr 14 0, .int .i64 S.tries, .sl true 56 LetT S.poi], .struct [.arr 8 (.int .i64) S.b, .own 11, .int .u64 S.v], .row true 16 EvT S.ev, .struct [.own 13], .row true 56 LetT S.inb, .struct [.str S.o, .own 15, .own 16], .row true 72 OutT S.l, .row true 24 LastT ls]
structure G4 where
 S : ActS
 ls : List LastT.den
 i : Nat
def A4 (p5 p6 : Bool) (names : List ByteArray) (code : List EvT.den) (now n : Int) : LoopAnn := {
 G := G4
 I := fun g => ⟨[(2, .int .i64 now), (4, .ptr 0 0), (9, .ptr 1 0), (10, .ptr 9 0), (40, .int .u8 n), (41, .int .u8 g.i)], [.struct [.sl p5 16 .str names, .sl p6 16 EvT code]] ++ ac1 g.S ++ wc1 g.S g.ls⟩
 R := fun _ g => (g.i : Int) ≤ n ∧ TurnI g.S g.ls ⟨#[109, 101]⟩ g.i
 μ := fun g => (n - g.i).toNat }
theorem I4 (p5 p6 names code now n) (g : G4) : (A4 p5 p6 names code now n).I g = ⟨[(2, .int .i64 now), (4, .ptr 0 0), (9, .ptr 1 0), (10, .ptr 9 0), (40, .int .u8 n), (41, .int .u8 g.i)], [.struct [.sl p5 16 .str names, .sl p6 16 EvT code]] ++ ac1 g.S ++ wc1 g.S g.ls⟩ := rfl
def C4 : Contract := fun args hp K => match args, hp with
 | [.agg [.sl true 16 .str names, .sl true 16 (.pair (.int .i64) (.int .i64)) code], .agg [.sl p1 56 (.pair .str (.pair (.int .u64) (.pair (.int .i64) (.sl 8 (.int .i64))))) letters, .sl p2 56 (.pair .str (.pair (.int .u64) (.pair (.int .i64) (.sl 8 (.int .i64))))) poison, .sl p3 16 .str to, .sl p4 16 (.pair (.int .i64) (.int .i64)) events, .int .i64 tries], .int .i64 now, .int .u8 n], [] => (0 ≤ n ∧ n ≤ 255) ∧ K (.bool true) []
 | _, _ => False
attribute [local irreducible] rc
theorem s4 : Sound Tryz.prog 4 C4 := by
 refine sound_of_okF ok4 (.cons s6 (callable_of_okF ok6) (.cons s7 (callable_of_okF ok7) (.cons s8 (callable_of_okF ok8) (.cons s10 (callable_of_okF ok10) (.cons s9 (callable_of_okF ok9) (.cons s12 (callable_of_okF ok12) (.cons s14 (callable_of_okF ok14) (.cons s13 (callable_of_okF ok13) (.cons s15 (callable_of_okF ok15) .nil))))))))) ?_
 intro args hp K h
 unfold C4 at h
 split at h
 ·rename_i names code p1 letters p2 poison p3 to p4 events tries now n
  obtain ⟨hn, h⟩ := h
  refine ⟨by simp, [(1, A4 true true names code now (n.tmod 12))], ?_⟩
  have hmx := maxLen_val
  simp (maxSteps:=9^9) only [a4, r4, go_sem, Nat.reduceBEq, Nat.reduceAdd]
  refine use6 ?_
  simp (maxSteps:=9^9) only [go_sem, Nat.reduceLeDiff, Nat.reduceSub, Nat.reduceBEq, Nat.reduceAdd]
  intro b hb
  simp (maxSteps:=9^9) only [go_sem, Nat.reduceLeDiff, Nat.reduceSub, Nat.reduceBEq, Nat.reduceAdd]
  refine sw_intro (fun hb1 => ?_) (fun _ => ?_)
  case refine_2 =>
   refine use6 ?_
   simp (maxSteps:=9^9) only [go_sem, Nat.reduceBEq, Nat.reduceAdd]
   exact h
  obtain ⟨he, hf⟩ := hb hb1
  rw [fewP_iff] at hf
  refine ⟨⟨Nat.zero_le _, Nat.zero_le _, by omega, Nat.zero_le _⟩, fun h9 => absurd h9 (by decide), fun _ S ls ho ht hpoi hin hsub hG hver => ?_⟩
  have hI : TurnI S ls ⟨#[109, 101]⟩ 0 := ⟨⟨ls, hG.b8, hG.ev, hG.e16, hG.in8, hG.inf, hG.inv.mono (by omega), hG.rel⟩, hG.rel, ho, ⟨by omega, by omega⟩⟩
  simp (maxSteps:=9^9) only [twoH, acH, wc8, go_sem, Int.reduceNe, Nat.reduceLeDiff, Nat.reduceSub, Nat.reduceLT, Nat.reduceBEq, Nat.reduceAdd]
  rintro _ _ m rfl
  have hm : 0 ≤ n.tmod 12 ∧ n.tmod 12 < 12 := ⟨Int.tmod_nonneg _ hn.1, Int.tmod_lt_of_pos _ (by omega)⟩
  refine loop_intro (A := A4 true true names code now (n.tmod 12)) (⟨S, ls, 0⟩ : G4) ?_ ⟨hm.1, hI⟩ ?_
  ·simp (maxSteps:=9^9) only [I4, ac1, wc1, go_sem, Nat.reduceBEq, Nat.reduceAdd]
   rfl
  ·generalize n.tmod 12 = n at *
   rintro (g : G4) ⟨g1, g2⟩
   obtain ⟨S, ls, i⟩ := g
   simp only at g1 g2
   simp (maxSteps:=9^9) only [I4, ac1, wc1, go_sem, Nat.reduceLeDiff, Nat.reduceSub, Nat.reduceBEq]
   refine swd (fun hlt => ?_) (fun hge => h)
   refine use10 (by omega) ?_
   obtain ⟨ls0, g⟩ := g2.good
   have gw := g2.goodW (by omega)
   simp (maxSteps:=9^9) only [go_sem, Nat.reduceBEq, Nat.reduceAdd]
   by_cases ok : takeOk S names code now
   ·have hcs : S.inb = [] ∨ ∃ f s k xs r, S.inb = (f, s, k, xs) :: r := by
     cases S.inb with
     | nil => exact .inl rfl
     | cons x r => exact .inr ⟨x.1, x.2.1, x.2.2.1, x.2.2.2, r, rfl⟩
    rcases hcs with hin | ⟨f, s, k, xs, r, hin⟩
    ·skip
     refine use9 (S := S) g (takeK_none hin (fun _ => ?_) (fun no => (no ok).elim))
     simp (maxSteps:=9^9) only [acH, out0, go_sem, Nat.reduceLeDiff, Nat.reduceSub, Nat.reduceLT, Nat.reduceBEq, Nat.reduceAdd]
     refine use12 (W := { S with m := ls }) gw (takeR_none ok hin ?_)
     simp (maxSteps:=9^9) only [wcH, out0, go_sem, Nat.reduceLeDiff, Nat.reduceSub, Nat.reduceLT, Nat.reduceBEq, Nat.reduceAdd]
     refine use14z ?_
     simp (maxSteps:=9^9) only [go_sem, Nat.reduceLeDiff, Nat.reduceSub, Nat.reduceBEq, Nat.reduceAdd]
     refine use13z ?_
     simp (maxSteps:=9^9) only [go_sem, Nat.reduceBEq, Nat.reduceAdd]
     refine use15 (S := S) (ls := ls) ((g2.step).same (by decide)) ?_
     simp (maxSteps:=9^9) only [sideH, acH, wc8, go_sem, Nat.reduceLT, Nat.reduceBEq, Nat.reduceAdd]
     rintro _ _ m hm
     rw [wu8 (by omega)] at hm
     subst hm
     refine lpE_intro (A := A4 true true names code now n) (⟨S, ls, i + 1⟩ : G4) ?_ ⟨by show ((i + 1 : Nat) : Int) ≤ n; omega, g2.step⟩ (by show (n - ((i + 1 : Nat) : Int)).toNat < (n - (i : Int)).toNat; omega)
     simp (maxSteps:=9^9) only [I4, ac1, wc1, go_sem, Nat.reduceBEq, Nat.reduceAdd]
     rfl
    ·obtain ⟨X, hX⟩ : ∃ X, X = runI 501 (startM names code f s k xs now (appE S.b S.ev)) := ⟨_, rfl⟩
     have hff := formP_iff.1 ok.2.1
     have hro : RunOk X.1 := by
      rw [hX]
      exact runI_ok hff.1.2 hff.2.2 501 _ (startM_inv (by rw [appE_length]; exact g.b8)) rfl
     by_cases h0 : X.2 = 0
     ·cases hs : sendO S.o (S.l, ls0) X.1.sent with
      | none =>
       refine use9 (S := S) g (takeK_room ok hin hX h0 hs ?_)
       simp (maxSteps:=9^9) only [acH, out0, go_sem, Nat.reduceLeDiff, Nat.reduceSub, Nat.reduceLT, Nat.reduceBEq, Nat.reduceAdd]
       refine use12 (W := { S with m := ls }) gw (takeR_room ok hin hX h0 ((sendT_of (o := S.o) X.1.sent (S.l, ls0) ls (Rel.two g.rel g2.rel g.inv.keys)).1 hs) ?_)
       simp (maxSteps:=9^9) only [wcH, out0, go_sem, Nat.reduceLeDiff, Nat.reduceSub, Nat.reduceLT, Nat.reduceBEq, Nat.reduceAdd]
       refine use14z ?_
       simp (maxSteps:=9^9) only [go_sem, Nat.reduceLeDiff, Nat.reduceSub, Nat.reduceBEq, Nat.reduceAdd]
       refine use13z ?_
       simp (maxSteps:=9^9) only [go_sem, Nat.reduceBEq, Nat.reduceAdd]
       refine use15 (S := S) (ls := ls) ((g2.step).same (by decide)) ?_
       simp (maxSteps:=9^9) only [sideH, acH, wc8, go_sem, Nat.reduceLT, Nat.reduceBEq, Nat.reduceAdd]
       rintro _ _ m hm
       rw [wu8 (by omega)] at hm
       subst hm
       refine lpE_intro (A := A4 true true names code now n) (⟨S, ls, i + 1⟩ : G4) ?_ ⟨by show ((i + 1 : Nat) : Int) ≤ n; omega, g2.step⟩ (by show (n - ((i + 1 : Nat) : Int)).toNat < (n - (i : Int)).toNat; omega)
       simp (maxSteps:=9^9) only [I4, ac1, wc1, go_sem, Nat.reduceBEq, Nat.reduceAdd]
       rfl
      | some p =>
       obtain ⟨L2, hs2, hI2, hw⟩ := g2.done (by omega) g hin hro hs
       have hI3 : TurnI { doneS S r X.1.ev p with v := S.v + (X.1.ev.length : Nat) } L2 ⟨#[109, 101]⟩ (i + 1) := by
        have h9 := hI2
        unfold doneS at h9
        rw [hw] at h9
        exact h9
       refine use9 (S := S) g (takeK_done ok hin hX h0 hs ?_)
       simp (maxSteps:=9^9) only [doneH, go_sem, Nat.reduceLeDiff, Nat.reduceSub, Nat.reduceLT, Nat.reduceBEq, Nat.reduceAdd]
       refine use12 (W := { S with m := ls }) gw (takeR_done ok hin hX h0 hs2 ?_)
       simp (maxSteps:=9^9) only [wcH, wc8, go_sem, Nat.reduceLeDiff, Nat.reduceSub, Nat.reduceLT, Nat.reduceBEq, Nat.reduceAdd]
       rw [hw]
       refine use14 ?_
       simp (maxSteps:=9^9) only [go_sem, Nat.reduceLeDiff, Nat.reduceSub, Nat.reduceBEq, Nat.reduceAdd]
       refine use13 ?_
       simp (maxSteps:=9^9) only [go_sem, Nat.reduceBEq, Nat.reduceAdd]
       refine use15 (S := { doneS S r X.1.ev p with v := S.v + (X.1.ev.length : Nat) }) (ls := L2) ((hI3).same (by decide)) ?_
       simp (maxSteps:=9^9) only [sideH, acH, wc8, go_sem, Nat.reduceLT, Nat.reduceBEq, Nat.reduceAdd]
       rintro _ _ m hm
       rw [wu8 (by omega)] at hm
       subst hm
       refine lpE_intro (A := A4 true true names code now n) (⟨{ doneS S r X.1.ev p with v := S.v + (X.1.ev.length : Nat) }, L2, i + 1⟩ : G4) ?_ ⟨by show ((i + 1 : Nat) : Int) ≤ n; omega, hI3⟩ (by show (n - ((i + 1 : Nat) : Int)).toNat < (n - (i : Int)).toNat; omega)
       simp (maxSteps:=9^9) only [I4, ac1, wc1, go_sem, Nat.reduceBEq, Nat.reduceAdd]
       rfl
     ·by_cases ht : S.tries + 1 < 3
      ·skip
       refine use9 (S := S) g (takeK_again ok hin hX h0 ht ?_)
       simp (maxSteps:=9^9) only [acH, go_sem, Nat.reduceLeDiff, Nat.reduceSub, Nat.reduceLT, Nat.reduceBEq, Nat.reduceAdd]
       refine use12 (W := { S with m := ls }) gw (takeR_again ok hin hX h0 ht ?_)
       simp (maxSteps:=9^9) only [wcH, wc8, go_sem, Nat.reduceLeDiff, Nat.reduceSub, Nat.reduceLT, Nat.reduceBEq, Nat.reduceAdd]
       refine use14z ?_
       simp (maxSteps:=9^9) only [go_sem, Nat.reduceLeDiff, Nat.reduceSub, Nat.reduceBEq, Nat.reduceAdd]
       refine use13z ?_
       simp (maxSteps:=9^9) only [go_sem, Nat.reduceBEq, Nat.reduceAdd]
       refine use15 (S := { S with tries := S.tries + 1 }) (ls := ls) (((g2.tri (S.tries + 1)).step).same (by decide)) ?_
       simp (maxSteps:=9^9) only [sideH, acH, wc8, go_sem, Nat.reduceLT, Nat.reduceBEq, Nat.reduceAdd]
       rintro _ _ m hm
       rw [wu8 (by omega)] at hm
       subst hm
       refine lpE_intro (A := A4 true true names code now n) (⟨{ S with tries := S.tries + 1 }, ls, i + 1⟩ : G4) ?_ ⟨by show ((i + 1 : Nat) : Int) ≤ n; omega, (g2.tri (S.tries + 1)).step⟩ (by show (n - ((i + 1 : Nat) : Int)).toNat < (n - (i : Int)).toNat; omega)
       simp (maxSteps:=9^9) only [I4, ac1, wc1, go_sem, Nat.reduceBEq, Nat.reduceAdd]
       rfl
      ·by_cases h8 : 8 ≤ S.poi.length
       ·skip
        refine use9 (S := S) g (takeK_full ok hin hX h0 ht h8 ?_)
        simp (maxSteps:=9^9) only [acH, out0, go_sem, Nat.reduceLeDiff, Nat.reduceSub, Nat.reduceLT, Nat.reduceBEq, Nat.reduceAdd]
        refine use12 (W := { S with m := ls }) gw (takeR_full ok hin hX h0 ht h8 ?_)
        simp (maxSteps:=9^9) only [wcH, out0, go_sem, Nat.reduceLeDiff, Nat.reduceSub, Nat.reduceLT, Nat.reduceBEq, Nat.reduceAdd]
        refine use14z ?_
        simp (maxSteps:=9^9) only [go_sem, Nat.reduceLeDiff, Nat.reduceSub, Nat.reduceBEq, Nat.reduceAdd]
        refine use13z ?_
        simp (maxSteps:=9^9) only [go_sem, Nat.reduceBEq, Nat.reduceAdd]
        refine use15 (S := S) (ls := ls) ((g2.step).same (by decide)) ?_
        simp (maxSteps:=9^9) only [sideH, acH, wc8, go_sem, Nat.reduceLT, Nat.reduceBEq, Nat.reduceAdd]
        rintro _ _ m hm
        rw [wu8 (by omega)] at hm
        subst hm
        refine lpE_intro (A := A4 true true names code now n) (⟨S, ls, i + 1⟩ : G4) ?_ ⟨by show ((i + 1 : Nat) : Int) ≤ n; omega, g2.step⟩ (by show (n - ((i + 1 : Nat) : Int)).toNat < (n - (i : Int)).toNat; omega)
        simp (maxSteps:=9^9) only [I4, ac1, wc1, go_sem, Nat.reduceBEq, Nat.reduceAdd]
        rfl
       ·skip
        refine use9 (S := S) g (takeK_pois ok hin hX h0 ht h8 ?_)
        simp (maxSteps:=9^9) only [acG, go_sem, Nat.reduceLeDiff, Nat.reduceSub, Nat.reduceLT, Nat.reduceBEq, Nat.reduceAdd]
        refine use12 (W := { S with m := ls }) gw (takeR_pois ok hin hX h0 ht h8 ?_)
        simp (maxSteps:=9^9) only [wcH, wc8, go_sem, Nat.reduceLeDiff, Nat.reduceSub, Nat.reduceLT, Nat.reduceBEq, Nat.reduceAdd]
        refine use14z ?_
        simp (maxSteps:=9^9) only [go_sem, Nat.reduceLeDiff, Nat.reduceSub, Nat.reduceBEq, Nat.reduceAdd]
        refine use13z ?_
        simp (maxSteps:=9^9) only [go_sem, Nat.reduceBEq, Nat.reduceAdd]
        refine use15 (S := { S with inb := r, poi := S.poi ++ [(f, s, k, xs)], tries := 0 }) (ls := ls) (((g2.poi hin (S.poi ++ [(f, s, k, xs)])).step).same (by decide)) ?_
        simp (maxSteps:=9^9) only [sideH, acH, wc8, go_sem, Nat.reduceLT, Nat.reduceBEq, Nat.reduceAdd]
        rintro _ _ m hm
        rw [wu8 (by omega)] at hm
        subst hm
        refine lpE_intro (A := A4 true true names code now n) (⟨{ S with inb := r, poi := S.poi ++ [(f, s, k, xs)], tries := 0 }, ls, i + 1⟩ : G4) ?_ ⟨by show ((i + 1 : Nat) : Int) ≤ n; omega, (g2.poi hin (S.poi ++ [(f, s, k, xs)])).step⟩ (by show (n - ((i + 1 : Nat) : Int)).toNat < (n - (i : Int)).toNat; omega)
        simp (maxSteps:=9^9) only [I4, ac1, wc1, go_sem, Nat.reduceBEq, Nat.reduceAdd]
        rfl
   ·skip
    refine use9 (S := S) g (takeK_bad ok ?_)
    simp (maxSteps:=9^9) only [acH, out0, go_sem, Nat.reduceLeDiff, Nat.reduceSub, Nat.reduceLT, Nat.reduceBEq, Nat.reduceAdd]
    refine use12 (W := { S with m := ls }) gw (takeR_bad ok ?_)
    simp (maxSteps:=9^9) only [wcH, out0, go_sem, Nat.reduceLeDiff, Nat.reduceSub, Nat.reduceLT, Nat.reduceBEq, Nat.reduceAdd]
    refine use14z ?_
    simp (maxSteps:=9^9) only [go_sem, Nat.reduceLeDiff, Nat.reduceSub, Nat.reduceBEq, Nat.reduceAdd]
    refine use13z ?_
    simp (maxSteps:=9^9) only [go_sem, Nat.reduceBEq, Nat.reduceAdd]
    refine use15 (S := S) (ls := ls) ((g2.step).same (by decide)) ?_
    simp (maxSteps:=9^9) only [sideH, acH, wc8, go_sem, Nat.reduceLT, Nat.reduceBEq, Nat.reduceAdd]
    rintro _ _ m hm
    rw [wu8 (by omega)] at hm
    subst hm
    refine lpE_intro (A := A4 true true names code now n) (⟨S, ls, i + 1⟩ : G4) ?_ ⟨by show ((i + 1 : Nat) : Int) ≤ n; omega, g2.step⟩ (by show (n - ((i + 1 : Nat) : Int)).toNat < (n - (i : Int)).toNat; omega)
    simp (maxSteps:=9^9) only [I4, ac1, wc1, go_sem, Nat.reduceBEq, Nat.reduceAdd]
    rfl
 ·exact h.elim
end Go.V
