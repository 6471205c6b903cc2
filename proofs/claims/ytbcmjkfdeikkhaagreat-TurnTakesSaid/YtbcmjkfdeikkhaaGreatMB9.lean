/- A part of the proof layer, or functions of the given program in it: contracts and their proofs. -/
import Derived.Test.YtbcmjkfdeikkhaaGreatMB6
namespace Go.V
open Go.Proofs
set_option maxRecDepth 100000
set_option maxHeartbeats 16000000
set_option linter.unusedSimpArgs false
set_option linter.unnecessarySimpa false
set_option linter.unusedVariables false
/-! ### the document's turn -/
def sendQ (p : List OutT.den × List LastT.den) (to : ByteArray) : Prop := 32 ≤ p.1.length ∨ (thereL p.2 to = none ∧ 64 ≤ p.2.length)
instance {p to} : Decidable (sendQ p to) := by unfold sendQ; exact inferInstance
def sendV (ls : List LastT.den) (to : ByteArray) : Int := IntKind.u64.wrap ((thereL ls to).getD (0 : Int) + 1)
def sendR (o : ByteArray) (p : List OutT.den × List LastT.den) (x : SentT.den) : Option (List OutT.den × List LastT.den) :=
 if keyOk x.1 = true ∧ ¬ sendQ p x.1 then some (p.1 ++ [(x.1, o, sendV p.2 x.1, x.2.1, [x.2.2])], setF p.2 x.1 (sendV p.2 x.1)) else none
def sendT (o : ByteArray) (p : List OutT.den × List LastT.den) : List SentT.den → Option (List OutT.den × List LastT.den)
 | [] => some p
 | x :: r => match sendR o p x with
  | some q => sendT o q r
  | none => none
theorem sendT_snoc (o : ByteArray) (x : SentT.den) : ∀ (l : List SentT.den) (p : List OutT.den × List LastT.den), sendT o p (l ++ [x]) = (sendT o p l).bind (fun q => sendR o q x)
 | [], p => by
  show sendT o p [x] = _
  simp only [sendT, Option.bind_some]
  cases sendR o p x <;> rfl
 | y :: r, p => by
  show sendT o p (y :: (r ++ [x])) = _
  simp only [sendT]
  cases sendR o p y with
  | none => rfl
  | some q => exact sendT_snoc o x r q
theorem sendT_none (o : ByteArray) (x : SentT.den) : ∀ (l r : List SentT.den) (p q : List OutT.den × List LastT.den), sendT o p l = some q → sendR o q x = none → sendT o p (l ++ x :: r) = none
 | [], r, p, q, h, hx => by
  cases h
  show sendT o p (x :: r) = none
  simp only [sendT, hx]
 | y :: l, r, p, q, h, hx => by
  show sendT o p (y :: (l ++ x :: r)) = none
  simp only [sendT] at h ⊢
  cases hy : sendR o p y with
  | none => rfl
  | some p1 =>
   rw [hy] at h
   exact sendT_none o x l r p1 q h hx
theorem sendR_some {o : ByteArray} {p : List OutT.den × List LastT.den} {x : SentT.den} (h : keyOk x.1 = true ∧ ¬ sendQ p x.1) : sendR o p x = some (p.1 ++ [(x.1, o, sendV p.2 x.1, x.2.1, [x.2.2])], setF p.2 x.1 (sendV p.2 x.1)) := if_pos h
theorem sendR_none {o : ByteArray} {p : List OutT.den × List LastT.den} {x : SentT.den} (h : ¬ (keyOk x.1 = true ∧ ¬ sendQ p x.1)) : sendR o p x = none := if_neg h
theorem sendR_of {o : ByteArray} {p : List OutT.den × List LastT.den} {L : List LastT.den} (h : Rel p.2 L) (x : SentT.den) :
  (sendS o p x = none → sendR o (p.1, L) x = none) ∧ (∀ q, sendS o p x = some q → ∃ L2, sendR o (p.1, L) x = some (q.1, L2) ∧ Rel q.2 L2) := by
 have hl := h.2 x.1
 have hw : sendV L x.1 = sendW p.2 x.1 := by unfold sendV sendW; rw [hl]
 have hb : sendQ (p.1, L) x.1 ↔ sendBad p x.1 := by unfold sendQ sendBad; rw [hl, h.1]
 by_cases hc : keyOk x.1 = true ∧ ¬ sendBad p x.1
 ·have e1 : sendS o p x = some (p.1 ++ [(x.1, o, sendW p.2 x.1, x.2.1, [x.2.2])], updM .str (.int .u64) p.2 x.1 (sendW p.2 x.1)) := if_pos hc
  have e2 := sendR_some (o := o) (p := (p.1, L)) (x := x) ⟨hc.1, fun hh => hc.2 (hb.1 hh)⟩
  constructor
  ·intro h9
   rw [e1] at h9
   cases h9
  ·intro q hq
   rw [e1] at hq
   cases hq
   exact ⟨_, e2.trans (by rw [hw]), h.set x.1 _⟩
 ·have e1 : sendS o p x = none := if_neg hc
  have e2 := sendR_none (o := o) (p := (p.1, L)) (x := x) (fun hh => hc ⟨hh.1, fun h9 => hh.2 (hb.2 h9)⟩)
  constructor
  ·intro _
   exact e2
  ·intro q hq
   rw [e1] at hq
   cases hq
theorem sendT_of {o : ByteArray} : ∀ (l : List SentT.den) (p : List OutT.den × List LastT.den) (L : List LastT.den), Rel p.2 L → (sendO o p l = none → sendT o (p.1, L) l = none) ∧ (∀ q, sendO o p l = some q → ∃ L2, sendT o (p.1, L) l = some (q.1, L2) ∧ Rel q.2 L2)
 | [], p, L, h => by
  constructor
  ·intro h9
   cases h9
  ·intro q hq
   cases hq
   exact ⟨L, rfl, h⟩
 | x :: r, p, L, h => by
  obtain ⟨h1, h2⟩ := sendR_of (o := o) h x
  unfold sendO sendT
  cases hs : sendS o p x with
  | none =>
   rw [h1 hs]
   constructor
   ·intro _
    rfl
   ·intro q hq
    cases hq
  | some q =>
   obtain ⟨L2, e, hr⟩ := h2 q hs
   rw [e]
   exact sendT_of r q L2 hr
def wc9 (S : ActS) : List SB := [.struct [.ptr 10 0, .ptr 12 0, .ptr 14 0, .int .i64 S.tries, .own 17], .struct [.arr 8 (.int .i64) S.b, .own 11, .int .u64 S.v], .row true 16 EvT S.ev, .struct [.own 13], .row true 56 LetT S.inb,
 .struct [.str S.o, .own 15, .own 16], .row true 72 OutT S.l, .row true 24 LastT S.m, .row true 56 LetT S.poi]
structure GoodW (W : ActS) : Prop where
 b8 : W.b.length = 8
 ev : W.ev.all okEv = true
 e16 : W.ev.length ≤ 16
 in8 : W.inb.length ≤ 8
 inf : W.inb.all fmL = true
 l32 : W.l.length ≤ 32
 m64 : W.m.length ≤ 64
 v : 0 ≤ W.v ∧ W.v ≤ 1000000
structure TakeR (W : ActS) (names : List ByteArray) (code : List EvT.den) (now : Int) (K : SV → List SB → Prop) : Prop where
 bad : ¬ takeOk W names code now → K (.tup [.ptr 0 0, out0, .int .i64 1]) (wcH false W)
 none : takeOk W names code now → W.inb = [] → K (.tup [.ptr 0 0, out0, .int .i64 5]) (wcH false W)
 again : takeOk W names code now → ∀ f s k xs r, W.inb = (f, s, k, xs) :: r → ∀ X, X = runI 501 (startM names code f s k xs now (appE W.b W.ev)) → X.2 ≠ 0 → W.tries + 1 < 3 → K (.tup [.ptr 8 0, .agg [.bool false, .bool false, .int .i64 X.2, .int .i64 X.1.steps, .nils], .int .i64 0]) (wcH false W ++ wc8 true { W with tries := W.tries + 1 })
 full : takeOk W names code now → ∀ f s k xs r, W.inb = (f, s, k, xs) :: r → ∀ X, X = runI 501 (startM names code f s k xs now (appE W.b W.ev)) → X.2 ≠ 0 → ¬ W.tries + 1 < 3 → 8 ≤ W.poi.length → K (.tup [.ptr 0 0, out0, .int .i64 8]) (wcH false W)
 poison : takeOk W names code now → ∀ f s k xs r, W.inb = (f, s, k, xs) :: r → ∀ X, X = runI 501 (startM names code f s k xs now (appE W.b W.ev)) → X.2 ≠ 0 → ¬ W.tries + 1 < 3 → ¬ 8 ≤ W.poi.length → K (.tup [.ptr 8 0, .agg [.bool false, .bool true, .int .i64 X.2, .int .i64 X.1.steps, .nils], .int .i64 0]) (wcH false W ++ wc8 true { W with inb := r, poi := W.poi ++ [(f, s, k, xs)], tries := 0 })
 room : takeOk W names code now → ∀ f s k xs r, W.inb = (f, s, k, xs) :: r → ∀ X, X = runI 501 (startM names code f s k xs now (appE W.b W.ev)) → X.2 = 0 → sendT W.o (W.l, W.m) X.1.sent = .none → K (.tup [.ptr 0 0, out0, .int .i64 8]) (wcH false W)
 done : takeOk W names code now → ∀ f s k xs r, W.inb = (f, s, k, xs) :: r → ∀ X, X = runI 501 (startM names code f s k xs now (appE W.b W.ev)) → X.2 = 0 → ∀ p, sendT W.o (W.l, W.m) X.1.sent = some p → K (.tup [.ptr 8 0, .agg [.bool true, .bool false, .int .i64 0, .int .i64 X.1.steps, .sl true 48 TimT X.1.tim], .int .i64 0])
  (wcH false W ++ wc8 true { W with inb := r, tries := 0, l := p.1, m := p.2, b := (jAdd W.b W.ev X.1.ev).1, ev := (jAdd W.b W.ev X.1.ev).2, v := W.v + (X.1.ev.length : Nat) })
def t9S (W : ActS) (r : List LetT.den) (ev : List EvT.den) (p : List OutT.den × List LastT.den) : ActS := { W with inb := r, tries := 0, l := p.1, m := p.2, b := (jAdd W.b W.ev ev).1, ev := (jAdd W.b W.ev ev).2, v := W.v + (ev.length : Nat) }
def t9A (W : ActS) (r : List LetT.den) (X : Mc) (g : Nat × (List OutT.den × List LastT.den)) : SS := ⟨[(1, .ptr 0 0), (7, .ptr 8 0), (9, .ptr 9 0), (10, .ptr 18 0), (98, .int .i64 X.sent.length), (99, .int .i64 g.1)],
 wcH false W ++ [.struct [.bool false, .bool false, .int .i64 0, .int .i64 0, .nils]] ++ wc9 (t9S W r X.ev g.2) ++ [.struct [.arr 8 (.int .i64) X.st, .sl true 16 EvT X.ev, .sl true 32 SentT X.sent, .sl true 48 TimT X.tim, .int .i64 X.steps]]⟩
def L12 (W : ActS) (r : List LetT.den) (X : Mc) : LoopAnn := { G := Nat × (List OutT.den × List LastT.den), I := t9A W r X, R := fun _ g => g.1 ≤ X.sent.length ∧ sendT W.o (W.l, W.m) (X.sent.take g.1) = some g.2 ∧ g.2.1.length ≤ 32 ∧ g.2.2.length ≤ 64, μ := fun g => X.sent.length - g.1 }
theorem L12_I {W r X} (g : Nat × (List OutT.den × List LastT.den)) : (L12 W r X).I g = t9A W r X g := rfl
theorem c38_ok {W : ActS} {K : SV → List SB → Prop} (h : K (.ptr 8 0) (wcH false W ++ wcO W)) : C38 [.ptr 0 0] (wcH false W) K := ⟨W, rfl, h⟩
theorem c39_ok {names : List ByteArray} {code : List EvT.den} {st : List Int} {f : ByteArray} {s k : Int} {xs : List Int} {now : Int} {K : SV → List SB → Prop} (h8 : st.length = 8) (h : formP names code = true ∧ f.size ≤ 40 ∧ xs.length ≤ 4 ∧ 0 ≤ now)
  (hK : ∀ X, X = runI 501 (startM names code f s k xs now st) → (X.2 = 0 → K (.tup [resV X.1, .int .i64 0]) []) ∧ (X.2 ≠ 0 → K (.tup [resE X.1.steps, .int .i64 X.2]) [])) :
  C39 [.agg [.sl true 16 .str names, .sl true 16 EvT code], .agg [.arr 8 (.int .i64) st], .agg [.str f, .int .u64 s, .int .i64 k, .sl true 8 (.int .i64) xs], .int .i64 now] [] K := ⟨h8, h, hK⟩
theorem c41_ok {f : ByteArray} {s k : Int} {xs : List Int} {r : List LetT.den} {K : SV → List SB → Prop} (h : r.length + 1 ≤ 1000) (h2 : K (.tup [.agg [.str f, .int .u64 s, .int .i64 k, .sl true 8 (.int .i64) xs], .bool true]) (inH true r)) : C41 [.ptr 0 0] (inH false ((f, s, k, xs) :: r)) K := ⟨_, rfl, f, s, k, xs, r, rfl, h, h2⟩
def runW (W : ActS) (names : List ByteArray) (code : List EvT.den) (now : Int) : (Mc × Int) × List LetT.den :=
 match W.inb with
 | (f, s, k, xs) :: r => (runI 501 (startM names code f s k xs now (appE W.b W.ev)), r)
 | [] => ((startM names code ByteArray.empty 0 0 [] 0 [], 0), [])
theorem sndS_t {t : Int} {n : Nat} {poi : List LetT.den} (h : sndS t n poi = true) : (0 ≤ t ∧ t < 3) ∧ poi.length ≤ 8 := by
 unfold sndS at h
 simp only [Bool.and_eq_true, decide_eq_true_eq] at h
 exact ⟨⟨h.1, h.2.1⟩, h.2.2.2.1⟩
def C12 : Contract := fun args hp K => match args with
 | [.agg [.sl true 16 .str names, .sl true 16 (.pair (.int .i64) (.int .i64)) code], .ptr 0 0, .int .i64 now] => ∃ W, hp = wcH false W ∧ GoodW W ∧ TakeR W names code now K
 | _ => False
attribute [local irreducible] rc
theorem s12 : Sound Tryz.prog 12 C12 := by
  refine sound_of_okF ok12 (.cons s36 (callable_of_okF ok36) (.cons s37 (callable_of_okF ok37) (.cons s38 (callable_of_okF ok38) (.cons s40 (callable_of_okF ok40) (.cons s39 (callable_of_okF ok39) (.cons s41 (callable_of_okF ok41) (.cons s27 (callable_of_okF ok27) (.cons s25 (callable_of_okF ok25) .nil)))))))) ?_
  intro args hp K h
  unfold C12 at h
  split at h
  · rename_i names code now
    obtain ⟨W, rfl, hG, h⟩ := h
    have hmx := maxLen_val
    refine ⟨by simp, [(1, L12 W (runW W names code now).2 (runW W names code now).1.1)], ?_⟩
    unfold wcH
    simp (maxSteps:=9^9) only [a12, r12, C36, C37, go_sem, Nat.reduceLeDiff, Nat.reduceSub, Nat.reduceBEq, Nat.reduceAdd]
    rintro _ _ n rfl
    refine ⟨by omega, ?_⟩
    refine sw_intro (fun hs => ?_) (fun hs => ?_) <;> rw [Int.toNat_natCast] at hs
    case refine_2 =>
      have hb := h.bad (fun hh => by rw [hh.1] at hs; cases hs)
      unfold wcH at hb
      exact hb
    refine sw_intro (fun hf => ?_) (fun hf => ?_)
    case refine_2 =>
      have hb := h.bad (fun hh => by rw [hh.2.1] at hf; cases hf)
      unfold wcH at hb
      exact hb
    rintro c rfl
    refine sw_intro (fun hn => ?_) (fun hn => ?_) <;> simp only [decide_eq_true_eq, decide_eq_false_iff_not] at hn
    · have hb := h.bad (fun hh => absurd hh.2.2 (by omega))
      unfold wcH at hb
      exact hb
    have hok : takeOk W names code now := ⟨hs, hf, by omega⟩
    have hT := (sndS_t hs).1
    rintro _ _ m rfl c rfl
    refine sw_intro (fun h0 => ?_) (fun h0 => ?_) <;> simp only [decide_eq_true_eq, decide_eq_false_iff_not] at h0
    · have hb := h.none hok (List.length_eq_zero_iff.1 (by omega))
      unfold wcH at hb
      exact hb
    obtain ⟨f, s, k, xs, r, hin⟩ : ∃ f s k xs r, W.inb = (f, s, k, xs) :: r := by
      cases hq : W.inb with
      | nil => rw [hq] at h0; exact absurd rfl h0
      | cons x r => exact ⟨x.1, x.2.1, x.2.2.1, x.2.2.2, r, rfl⟩
    have hfm : fmL (f, s, k, xs) = true := List.all_eq_true.1 hG.inf _ (by rw [hin]; exact List.mem_cons_self)
    rw [fmL_iff] at hfm
    have hlet : formP names code = true ∧ f.size ≤ 40 ∧ (xs : List Int).length ≤ 4 ∧ 0 ≤ now := ⟨hf, hfm.1, hfm.2, by omega⟩
    have h8 : (appE W.b W.ev).length = 8 := by rw [appE_length]; exact hG.b8
    have he16 : W.ev.length ≤ 1000 := by have := hG.e16; omega
    refine c38_ok (W := W) ?_
    simp (maxSteps:=9^9) only [wcH, wcO, C40, hin, go_sem, Int.reduceToNat, Nat.reduceLeDiff, Nat.reduceSub, Nat.reduceLT, Nat.reduceBEq, Nat.reduceAdd]
    have e0 : elt LetT ((f, s, k, xs) :: r) 0 = (f, s, k, xs) := rfl
    rw [e0]
    refine nd_intro (by simp) ?_
    with_reducible repeat' apply And.intro
    all_goals first
      | exact hG.b8
      | exact hG.ev
      | exact he16
      | exact Nat.succ_pos _
      | refine c39_ok (f := f) (s := s) (k := k) (xs := xs) h8 hlet (fun X hX => ⟨fun hz => ?_, fun hz => ?_⟩)
    all_goals simp (maxSteps:=9^9) only [resV, resE, go_sem, Int.reduceToNat, Nat.reduceLeDiff, Nat.reduceSub, Nat.reduceMul, Nat.reduceBEq, Nat.reduceAdd]
    all_goals try refine ⟨⟨Nat.succ_pos _, nd_intro (Nat.succ_pos _) rfl⟩, ?_⟩
    · refine c41_ok (f := f) (s := s) (k := k) (xs := xs) (r := r) (by have := hG.in8; rw [hin] at this; simp only [List.length_cons] at this; omega) ?_
      simp (maxSteps:=9^9) only [inH, C27, jH, go_sem, Nat.reduceLeDiff, Nat.reduceSub, Nat.reduceMul, Nat.reduceLT, Nat.reduceBEq, Nat.reduceAdd]
      have hXe : runW W names code now = (X, r) := by
        unfold runW
        rw [hin]
        exact congrArg (fun Z => (Z, r)) hX.symm
      have hff := formP_iff.1 hf
      have hro : RunOk X.1 := by
        rw [hX]
        exact runI_ok hff.1.2 hff.2.2 501 _ (startM_inv h8) rfl
      rw [hXe]
      have hv : 0 ≤ W.v ∧ W.v + (X.1.ev.length : Int) ≤ 18446744073709551615 := ⟨hG.v.1, by have := hro.e5; have := hG.v.2; omega⟩
      refine ⟨hG.b8, hG.ev, hG.e16, hv, ?_⟩
      refine ⟨fun h10 => ?_, fun _ => ?_⟩
      · rw [hro.ev] at h10
        cases h10
      rintro _ _ m rfl
      refine loop_intro (A := L12 W r X.1) ((0 : Nat), (W.l, W.m)) ?_ ⟨Nat.zero_le _, rfl, hG.l32, hG.m64⟩ ?_
      · simp (maxSteps:=9^9) only [L12_I, t9A, t9S, wcH, wc9, hin, go_sem, Nat.reduceBEq, Nat.reduceAdd]
        rfl
      · rintro ⟨i, p⟩ ⟨(hi : i ≤ X.1.sent.length), (hsd : sendT W.o (W.l, W.m) (X.1.sent.take i) = some p), (hl32 : p.1.length ≤ 32), (hm64 : p.2.length ≤ 64)⟩
        simp (maxSteps:=9^9) only [L12_I, t9A, t9S, wcH, wc9, hin, C25, rfH, go_sem, Int.reduceEq, Nat.reduceLeDiff, Nat.reduceSub, Nat.reduceMul, Nat.reduceLT, Nat.reduceBEq, Nat.reduceAdd]
        rintro c rfl
        refine sw_intro (fun hc => ?_) (fun hc => ?_) <;> simp only [decide_eq_true_eq, decide_eq_false_iff_not] at hc
        · have hbad : sendR W.o p (elt SentT X.1.sent i) = none → sendT W.o (W.l, W.m) X.1.sent = none := fun h9 => by
            have e := take_cut (t := SentT) hc
            exact (congrArg (sendT W.o (W.l, W.m)) e).trans (sendT_none _ _ _ _ _ _ hsd h9)
          have hb : sendR W.o p (elt SentT X.1.sent i) = none → _ := fun h9 => h.room hok f s k xs r hin X hX hz (hbad h9)
          unfold wcH at hb
          simp only [hin] at hb
          refine nd_intro hc ⟨rfl, by omega, by omega, fun h9 => hb (sendR_none (fun hh => h9 hh.1)), fun _ h9 => hb (sendR_none (fun hh => hh.2 h9)), fun h9 h10 sr hsr => ?_⟩
          rintro _ _ m hm
          rw [w64 (by omega)] at hm
          subst hm
          have hnew : sendR W.o p (elt SentT X.1.sent i) = some (p.1 ++ [((elt SentT X.1.sent i).1, W.o, sr, (elt SentT X.1.sent i).2.1, [(elt SentT X.1.sent i).2.2])], setF p.2 (elt SentT X.1.sent i).1 sr) := by
            rw [hsr]
            exact sendR_some ⟨h9, h10⟩
          refine lpE_intro (A := L12 W r X.1) (i + 1, (p.1 ++ [((elt SentT X.1.sent i).1, W.o, sr, (elt SentT X.1.sent i).2.1, [(elt SentT X.1.sent i).2.2])], setF p.2 (elt SentT X.1.sent i).1 sr)) (by simp (maxSteps:=9^9) only [L12_I, t9A, t9S, wcH, wc9, hin, go_sem, Nat.reduceBEq, Nat.reduceAdd]; rfl) ⟨hc, ?_, ?_, ?_⟩ ?_
          · show sendT W.o (W.l, W.m) (List.take (i + 1) X.1.sent) = _
            have e := take_elt (t := SentT) hc
            rw [← e, sendT_snoc, hsd]
            exact hnew
          · simp only [List.length_append, List.length_cons, List.length_nil]
            omega
          · show (setF p.2 (elt SentT X.1.sent i).1 sr).length ≤ 64
            rw [setF_eq, setR_length]
            split
            · rename_i hq
              have : ¬ 64 ≤ p.2.length := fun h11 => h10 (.inr ⟨by rw [thereL_eq]; exact hq, h11⟩)
              omega
            · exact hm64
          · show X.1.sent.length - (i + 1) < X.1.sent.length - i
            omega
        · rw [List.take_of_length_le (by omega)] at hsd
          have hb := h.done hok f s k xs r hin X hX hz p hsd
          unfold wcH wc8 at hb
          simp only [hin] at hb
          exact hb
    · rintro c rfl
      refine sw_intro (fun hc => ?_) (fun hc => ?_) <;> simp only [Bool.not_eq_true', Bool.not_eq_false', decide_eq_true_eq, decide_eq_false_iff_not] at hc
      · exact absurd hc hz
      rintro _ _ m hm c rfl
      have ht := hT
      rw [w64 (by omega)] at hm
      subst hm
      refine sw_intro (fun h5 => ?_) (fun h5 => ?_) <;> simp only [decide_eq_true_eq, decide_eq_false_iff_not] at h5
      · have hb := h.again hok f s k xs r hin X hX hz h5
        unfold wcH wc8 at hb
        simp only [hin] at hb
        exact hb
      rintro _ _ m rfl c rfl
      refine sw_intro (fun h6 => ?_) (fun h6 => ?_) <;> simp only [decide_eq_true_eq, decide_eq_false_iff_not] at h6
      · have hb := h.full hok f s k xs r hin X hX hz h5 (by omega)
        unfold wcH at hb
        simp only [hin] at hb
        exact hb
      refine c41_ok (f := f) (s := s) (k := k) (xs := xs) (r := r) (by have := hG.in8; rw [hin] at this; simp only [List.length_cons] at this; omega) ?_
      simp (maxSteps:=9^9) only [inH, go_sem, Nat.reduceLeDiff, Nat.reduceSub, Nat.reduceMul, Nat.reduceLT, Nat.reduceBEq, Nat.reduceAdd]
      have hb := h.poison hok f s k xs r hin X hX hz h5 (by omega)
      unfold wcH wc8 at hb
      simp only [hin] at hb
      exact ⟨fun _ => by omega, fun _ => hb⟩
    all_goals first
      | (rintro c rfl
         refine sw_intro (fun hc => ?_) (fun hc => ?_) <;> simp only [Bool.not_eq_true', Bool.not_eq_false', decide_eq_true_eq, decide_eq_false_iff_not] at hc
         · exact absurd hc hz
         rintro _ _ m hm c rfl
         have ht := hT
         rw [w64 (by omega)] at hm
         subst hm
         refine sw_intro (fun h5 => ?_) (fun h5 => ?_) <;> simp only [decide_eq_true_eq, decide_eq_false_iff_not] at h5
         · have hb := h.again hok f s k xs r hin X hX hz h5
           unfold wcH wc8 at hb
           simp only [hin] at hb
           exact hb
         rintro _ _ m rfl c rfl
         refine sw_intro (fun h6 => ?_) (fun h6 => ?_) <;> simp only [decide_eq_true_eq, decide_eq_false_iff_not] at h6
         · have hb := h.full hok f s k xs r hin X hX hz h5 (by omega)
           unfold wcH at hb
           simp only [hin] at hb
           exact hb
         refine c41_ok (f := f) (s := s) (k := k) (xs := xs) (r := r) (by have := hG.in8; rw [hin] at this; simp only [List.length_cons] at this; omega) ?_
         simp (maxSteps:=9^9) only [inH, go_sem, Nat.reduceLeDiff, Nat.reduceSub, Nat.reduceMul, Nat.reduceLT, Nat.reduceBEq, Nat.reduceAdd]
         have hb := h.poison hok f s k xs r hin X hX hz h5 (by omega)
         unfold wcH wc8 at hb
         simp only [hin] at hb
         exact ⟨fun _ => by omega, fun _ => hb⟩)
      | (refine c41_ok (f := f) (s := s) (k := k) (xs := xs) (r := r) (by have := hG.in8; rw [hin] at this; simp only [List.length_cons] at this; omega) ?_
         simp (maxSteps:=9^9) only [inH, C27, jH, go_sem, Nat.reduceLeDiff, Nat.reduceSub, Nat.reduceMul, Nat.reduceLT, Nat.reduceBEq, Nat.reduceAdd]
         have hXe : runW W names code now = (X, r) := by
           unfold runW
           rw [hin]
           exact congrArg (fun Z => (Z, r)) hX.symm
         have hff := formP_iff.1 hf
         have hro : RunOk X.1 := by
           rw [hX]
           exact runI_ok hff.1.2 hff.2.2 501 _ (startM_inv h8) rfl
         rw [hXe]
         have hv : 0 ≤ W.v ∧ W.v + (X.1.ev.length : Int) ≤ 18446744073709551615 := ⟨hG.v.1, by have := hro.e5; have := hG.v.2; omega⟩
         refine ⟨hG.b8, hG.ev, hG.e16, hv, ?_⟩
         refine ⟨fun h10 => ?_, fun _ => ?_⟩
         · rw [hro.ev] at h10
           cases h10
         rintro _ _ m rfl
         refine loop_intro (A := L12 W r X.1) ((0 : Nat), (W.l, W.m)) ?_ ⟨Nat.zero_le _, rfl, hG.l32, hG.m64⟩ ?_
         · simp (maxSteps:=9^9) only [L12_I, t9A, t9S, wcH, wc9, hin, go_sem, Nat.reduceBEq, Nat.reduceAdd]
           rfl
         · rintro ⟨i, p⟩ ⟨(hi : i ≤ X.1.sent.length), (hsd : sendT W.o (W.l, W.m) (X.1.sent.take i) = some p), (hl32 : p.1.length ≤ 32), (hm64 : p.2.length ≤ 64)⟩
           simp (maxSteps:=9^9) only [L12_I, t9A, t9S, wcH, wc9, hin, C25, rfH, go_sem, Int.reduceEq, Nat.reduceLeDiff, Nat.reduceSub, Nat.reduceMul, Nat.reduceLT, Nat.reduceBEq, Nat.reduceAdd]
           rintro c rfl
           refine sw_intro (fun hc => ?_) (fun hc => ?_) <;> simp only [decide_eq_true_eq, decide_eq_false_iff_not] at hc
           · have hbad : sendR W.o p (elt SentT X.1.sent i) = none → sendT W.o (W.l, W.m) X.1.sent = none := fun h9 => by
               have e := take_cut (t := SentT) hc
               exact (congrArg (sendT W.o (W.l, W.m)) e).trans (sendT_none _ _ _ _ _ _ hsd h9)
             have hb : sendR W.o p (elt SentT X.1.sent i) = none → _ := fun h9 => h.room hok f s k xs r hin X hX hz (hbad h9)
             unfold wcH at hb
             simp only [hin] at hb
             refine nd_intro hc ⟨rfl, by omega, by omega, fun h9 => hb (sendR_none (fun hh => h9 hh.1)), fun _ h9 => hb (sendR_none (fun hh => hh.2 h9)), fun h9 h10 sr hsr => ?_⟩
             rintro _ _ m hm
             rw [w64 (by omega)] at hm
             subst hm
             have hnew : sendR W.o p (elt SentT X.1.sent i) = some (p.1 ++ [((elt SentT X.1.sent i).1, W.o, sr, (elt SentT X.1.sent i).2.1, [(elt SentT X.1.sent i).2.2])], setF p.2 (elt SentT X.1.sent i).1 sr) := by
               rw [hsr]
               exact sendR_some ⟨h9, h10⟩
             refine lpE_intro (A := L12 W r X.1) (i + 1, (p.1 ++ [((elt SentT X.1.sent i).1, W.o, sr, (elt SentT X.1.sent i).2.1, [(elt SentT X.1.sent i).2.2])], setF p.2 (elt SentT X.1.sent i).1 sr)) (by simp (maxSteps:=9^9) only [L12_I, t9A, t9S, wcH, wc9, hin, go_sem, Nat.reduceBEq, Nat.reduceAdd]; rfl) ⟨hc, ?_, ?_, ?_⟩ ?_
             · show sendT W.o (W.l, W.m) (List.take (i + 1) X.1.sent) = _
               have e := take_elt (t := SentT) hc
               rw [← e, sendT_snoc, hsd]
               exact hnew
             · simp only [List.length_append, List.length_cons, List.length_nil]
               omega
             · show (setF p.2 (elt SentT X.1.sent i).1 sr).length ≤ 64
               rw [setF_eq, setR_length]
               split
               · rename_i hq
                 have : ¬ 64 ≤ p.2.length := fun h11 => h10 (.inr ⟨by rw [thereL_eq]; exact hq, h11⟩)
                 omega
               · exact hm64
             · show X.1.sent.length - (i + 1) < X.1.sent.length - i
               omega
           · rw [List.take_of_length_le (by omega)] at hsd
             have hb := h.done hok f s k xs r hin X hX hz p hsd
             unfold wcH wc8 at hb
             simp only [hin] at hb
             exact hb)
  · exact h.elim
end Go.V
namespace Go.V
open Go.Proofs
set_option maxRecDepth 100000
set_option maxHeartbeats 16000000
set_option linter.unusedSimpArgs false
set_option linter.unnecessarySimpa false
set_option linter.unusedVariables false
/-! ### the two actors side by side -/
structure SameOk (S : ActS) (ls : List LastT.den) : Prop where
 o : S.o ≠ ByteArray.empty
 b8 : S.b.length = 8
 ev : S.ev.all okEv = true
 e16 : S.ev.length ≤ 16
 in8 : S.inb.length ≤ 8
 l32 : S.l.length ≤ 32
 m64 : ls.length ≤ 64
 rel : Rel S.m ls
theorem frS_rel {S : ActS} {ls : List LastT.den} (h : Rel S.m ls) : frS { S with m := ls } = frS S := by
 unfold frS
 rw [h.1]
def sideH (S : ActS) (ls : List LastT.den) : List SB := acH false S ++ wc8 false { S with m := ls }
def A15 (S : ActS) (ls : List LastT.den) : LoopAnn := cntA (fun i => ⟨[(0, .ptr 0 0), (1, .ptr 8 0), (5, .own 16), (6, .own 17), (69, .int .i64 S.l.length), (70, .int .i64 i)], sideH S ls ++ [.row true 72 OutT S.l, .row true 72 OutT (S.l.take i)]⟩) S.l.length
def B15 (S : ActS) (ls : List LastT.den) : LoopAnn := cntA (fun i => ⟨[(0, .ptr 0 0), (1, .ptr 8 0), (6, .own 16), (8, .own 17), (94, .int .i64 ls.length), (95, .int .i64 i)], sideH S ls ++ [.row true 72 OutT S.l, .row true 16 .str (ls.map fun x => x.1)]⟩) ls.length
theorem I15 (S ls) (i : Nat) : (A15 S ls).I i = ⟨[(0, .ptr 0 0), (1, .ptr 8 0), (5, .own 16), (6, .own 17), (69, .int .i64 S.l.length), (70, .int .i64 i)], sideH S ls ++ [.row true 72 OutT S.l, .row true 72 OutT (S.l.take i)]⟩ := rfl
theorem J15 (S ls) (i : Nat) : (B15 S ls).I i = ⟨[(0, .ptr 0 0), (1, .ptr 8 0), (6, .own 16), (8, .own 17), (94, .int .i64 ls.length), (95, .int .i64 i)], sideH S ls ++ [.row true 72 OutT S.l, .row true 16 .str (ls.map fun x => x.1)]⟩ := rfl
theorem swd {p : Prop} [inst : Decidable p] {A B : Bool → Prop} (h1 : p → A true) (h2 : ¬ p → B false) : ∀ c : Bool, c = decide p → sw c (A c) (B c) := by
 rintro c rfl
 refine sw_intro (fun e => ?_) (fun e => ?_)
 ·have := of_decide_eq_true e; rw [e]; exact h1 this
 ·have := of_decide_eq_false e; rw [e]; exact h2 this
theorem swn {p : Prop} [inst : Decidable p] {A B : Bool → Prop} (h1 : ¬ p → A true) (h2 : p → B false) : ∀ c : Bool, c = !decide p → sw c (A c) (B c) := by
 rintro c rfl
 refine sw_intro (fun e => ?_) (fun e => ?_)
 ·have : ¬ p := by simpa using e
  rw [e]; exact h1 this
 ·have : p := by simpa using e
  rw [e]; exact h2 this
/-! ### the contracts, as they are used -/
section use
variable {K : SV → List SB → Prop} {S : ActS} {o : ByteArray} {l L : List OutT.den} {m : List (ByteArray × Int)} {ls : List LastT.den} {b : List Int} {ev : List EvT.den} {v : Int} {p q : Bool} {to : ByteArray}
theorem use44 (k : K (.str S.o) (acH false S)) : C44 [.ptr 0 0] (acH false S) K := .inl ⟨S, rfl, k⟩
theorem use45 {x : List LetT.den} (k : K (.bool true) []) : C45 [.sl p 56 LetT x, .sl q 56 LetT x] [] K := ⟨rfl, k⟩
theorem use46 {x : List LetT.den} (h : x.length ≤ 1000) (k : K (.own 2) (inH false x ++ [.row true 56 LetT x])) : C46 [.ptr 0 0] (inH false x) K := ⟨x, rfl, h, k⟩
theorem use47 (h : o ≠ ByteArray.empty) (k : K (.own 3) (obH false o l m ++ [.row true 72 OutT l])) : C47 [.ptr 0 0] (obH false o l m) K := ⟨o, l, m, rfl, h, k⟩
theorem use48 (k : K (.own 3) (rfH false false o L ls ++ [.row true 16 .str (ls.map fun x => x.1)])) : C48 [.ptr 0 0] (rfH false false o L ls) K := ⟨o, L, ls, rfl, k⟩
theorem use49 (h : o ≠ ByteArray.empty) (k : K (.int .u64 ((lookM .str (.int .u64) m to).getD (0 : Int))) (obH false o l m)) : C49 [.ptr 0 0, .str to] (obH false o l m) K := ⟨o, l, m, rfl, h, k⟩
theorem use50 (k : K (.int .u64 ((thereL ls to).getD (0 : Int))) (rfH false false o L ls)) : C50 [.ptr 0 0, .str to] (rfH false false o L ls) K := ⟨o, L, ls, rfl, k⟩
theorem use51 {x : List OutT.den} (k : K (.bool true) []) : C51 [.sl p 72 OutT x, .sl q 72 OutT x] [] K := ⟨rfl, k⟩
theorem use20 (h : b.length = 8 ∧ ev.all okEv = true ∧ ev.length ≤ 1000) (k : K (.agg [.arr 8 (.int .i64) (appE b ev)]) (jH false b ev v)) : C20 [.ptr 0 0] (jH false b ev v) K := ⟨b, ev, v, rfl, h.1, h.2.1, h.2.2, k⟩
theorem use40 (h : b.length = 8 ∧ ev.all okEv = true ∧ ev.length ≤ 1000) (k : K (.agg [.arr 8 (.int .i64) (appE b ev)]) (jH false b ev v)) : C40 [.ptr 0 0] (jH false b ev v) K := ⟨b, ev, v, rfl, h.1, h.2.1, h.2.2, k⟩
theorem use52 (k : K (.int .u64 v) (jH false b ev v)) : C52 [.ptr 0 0] (jH false b ev v) K := ⟨b, ev, v, rfl, k⟩
theorem use53 (k : K (.agg [.arr 8 (.int .i64) b]) (jH false b ev v)) : C53 [.ptr 0 0] (jH false b ev v) K := ⟨b, ev, v, rfl, k⟩
theorem use54 (h : S.inb.length ≤ 1000 ∧ S.o ≠ ByteArray.empty) (k : K (.bool (frS S)) (acH false S)) : C54 [.ptr 0 0] (acH false S) K := ⟨S, rfl, h.1, h.2, k⟩
theorem use55 (h : S.m.length ≤ 1000) (k : K (.bool (frS S)) (wcH false S)) : C55 [.ptr 0 0] (wcH false S) K := ⟨S, rfl, h, k⟩
end use
def C15 : Contract := fun args hp K => match args with
 | [.ptr 0 0, .ptr 8 0] => ∃ S ls, hp = sideH S ls ∧ SameOk S ls ∧ K (.bool true) hp
 | _ => False
attribute [local irreducible] rc
theorem s15 : Sound Tryz.prog 15 C15 := by
 refine sound_of_okF ok15 (.cons s44 (callable_of_okF ok44) (.cons s45 (callable_of_okF ok45) (.cons s46 (callable_of_okF ok46) (.cons s47 (callable_of_okF ok47) (.cons s48 (callable_of_okF ok48) (.cons s49 (callable_of_okF ok49) (.cons s50 (callable_of_okF ok50) (.cons s51 (callable_of_okF ok51) (.cons s20 (callable_of_okF ok20) (.cons s40 (callable_of_okF ok40) (.cons s52 (callable_of_okF ok52) (.cons s53 (callable_of_okF ok53) (.cons s54 (callable_of_okF ok54) (.cons s55 (callable_of_okF ok55) .nil)))))))))))))) ?_
 intro args hp K h
 unfold C15 at h
 split at h
 ·obtain ⟨S, ls, rfl, ok, h⟩ := h
  generalize hH : sideH S ls = H at h ⊢
  refine ⟨by simp, [(1, A15 S ls), (2, B15 S ls)], ?_⟩
  have hn : H.length = 16 := by rw [← hH]; rfl
  rw [hn]
  clear hn
  unfold sideH acH wc8 at hH
  simp only [List.cons_append, List.nil_append] at hH
  subst hH
  have hmx := maxLen_val
  obtain ⟨o, b8, ev, e16, in8, l32, m64, rel⟩ := ok
  have hfr := frS_rel rel
  simp (maxSteps:=9^9) only [a15, r15, go_sem, Nat.reduceLeDiff, Nat.reduceSub, Nat.reduceBEq, Nat.reduceAdd]
  refine use44 (S := S) ?_
  simp (maxSteps:=9^9) only [acH, go_sem, Nat.reduceLeDiff, Nat.reduceSub, Nat.reduceLT, Nat.reduceBEq, Nat.reduceAdd]
  refine use45 ?_
  simp (maxSteps:=9^9) only [go_sem, Nat.reduceSub, Nat.reduceBEq, Nat.reduceAdd]
  refine use46 (x := S.inb) (by omega) ?_
  simp (maxSteps:=9^9) only [inH, go_sem, Nat.reduceSub, Nat.reduceLT, Nat.reduceBEq, Nat.reduceAdd]
  refine And.intro rfl (use45 ?_)
  simp (maxSteps:=9^9) only [go_sem, Nat.reduceLeDiff, Nat.reduceSub, Nat.reduceBEq, Nat.reduceAdd]
  refine use47 (o := S.o) (l := S.l) (m := S.m) o ?_
  simp (maxSteps:=9^9) only [obH, go_sem, Nat.reduceLeDiff, Nat.reduceSub, Nat.reduceLT, Nat.reduceBEq, Nat.reduceAdd]
  rintro _ _ k rfl
  refine loop_intro (A := A15 S ls) (0 : Nat) ?_ (Nat.zero_le _) ?_
  ·simp (maxSteps:=9^9) only [I15, sideH, acH, wc8, go_sem, Nat.reduceBEq, Nat.reduceAdd]
   rfl
  ·intro (i : Nat) (hi : i ≤ S.l.length)
   simp (maxSteps:=9^9) only [I15, sideH, acH, wc8, go_sem, Nat.reduceLeDiff, Nat.reduceSub, Nat.reduceMul, Nat.reduceBEq, Nat.reduceAdd]
   refine swd (fun hlt => ?_) (fun hge => ?_)
   ·have hlen : (S.l.take i).length = i := by rw [List.length_take]; omega
    refine nd_intro hlt (And.intro (fun _ => by rw [hlen]; omega) (fun _ => ?_))
    rintro _ _ m hm
    rw [w64 (by omega)] at hm
    subst hm
    refine cntA_next hlt ?_
    simp (maxSteps:=9^9) only [go_sem, Nat.reduceBEq, Nat.reduceAdd]
    rw [← take_elt (t := OutT) hlt]
    rfl
   ·have : i = S.l.length := by omega
    subst this
    rw [List.take_length]
    refine use48 (o := S.o) (L := S.l) (ls := ls) ?_
    simp (maxSteps:=9^9) only [rfH, go_sem, Nat.reduceLeDiff, Nat.reduceSub, Nat.reduceLT, Nat.reduceBEq, Nat.reduceAdd]
    have hml : (ls.map fun x : LastT.den => x.1).length = ls.length := List.length_map ..
    rintro _ _ k rfl
    refine loop_intro (A := B15 S ls) (0 : Nat) ?_ (Nat.zero_le _) ?_
    ·simp (maxSteps:=9^9) only [J15, sideH, acH, wc8, hml, go_sem, Nat.reduceBEq, Nat.reduceAdd]
     rfl
    ·intro (i : Nat) (hi : i ≤ ls.length)
     simp (maxSteps:=9^9) only [J15, sideH, acH, wc8, go_sem, Nat.reduceLeDiff, Nat.reduceSub, Nat.reduceBEq, Nat.reduceAdd]
     refine swd (fun hlt => ?_) (fun hge => ?_)
     ·have hlt' : i < (ls.map fun x : LastT.den => x.1).length := by rw [hml]; exact hlt
      refine nd_intro hlt' ?_
      refine use49 (o := S.o) (l := S.l) (m := S.m) o ?_
      simp (maxSteps:=9^9) only [obH, go_sem, Nat.reduceLeDiff, Nat.reduceSub, Nat.reduceLT, Nat.reduceBEq, Nat.reduceAdd]
      refine And.intro hlt' ?_
      refine use50 (o := S.o) (L := S.l) (ls := ls) ?_
      simp (maxSteps:=9^9) only [rfH, go_sem, Nat.reduceLT, Nat.reduceBEq, Nat.reduceAdd]
      refine swn (fun hne => absurd (by rw [rel.2]) hne) (fun _ => ?_)
      rintro _ _ m hm
      rw [w64 (by omega)] at hm
      subst hm
      refine cntA_next hlt ?_
      simp (maxSteps:=9^9) only [sideH, acH, wc8, go_sem, Nat.reduceBEq, Nat.reduceAdd]
      rfl
     ·refine And.intro rfl (use51 (x := S.l) ?_)
      simp (maxSteps:=9^9) only [go_sem, Nat.reduceBEq, Nat.reduceAdd]
      refine use20 (b := S.b) (ev := S.ev) (v := S.v) ⟨b8, ev, by omega⟩ ?_
      simp (maxSteps:=9^9) only [jH, go_sem, Nat.reduceLT, Nat.reduceBEq, Nat.reduceAdd]
      refine use40 (b := S.b) (ev := S.ev) (v := S.v) ⟨b8, ev, by omega⟩ ?_
      simp (maxSteps:=9^9) only [jH, go_sem, Nat.reduceLeDiff, Nat.reduceSub, Nat.reduceMul, Nat.reduceLT, Nat.reduceBEq, Nat.reduceAdd]
      refine use52 (b := S.b) (ev := S.ev) (v := S.v) ?_
      simp (maxSteps:=9^9) only [jH, go_sem, Nat.reduceLeDiff, Nat.reduceSub, Nat.reduceMul, Nat.reduceLT, Nat.reduceBEq, Nat.reduceAdd]
      refine use53 (b := S.b) (ev := S.ev) (v := S.v) ?_
      simp (maxSteps:=9^9) only [jH, go_sem, Nat.reduceSub, Nat.reduceMul, Nat.reduceLT, Nat.reduceBEq, Nat.reduceAdd]
      refine use54 (S := S) ⟨by omega, o⟩ ?_
      simp (maxSteps:=9^9) only [acH, go_sem, Nat.reduceLT, Nat.reduceBEq, Nat.reduceAdd]
      refine use55 (S := { S with m := ls }) (by show ls.length ≤ 1000; omega) ?_
      rw [hfr]
      simp (maxSteps:=9^9) only [wcH, go_sem, Nat.reduceLT, Nat.reduceBEq, Nat.reduceAdd]
      exact h
 ·exact h.elim
end Go.V
namespace Go.V
open Go.Proofs
set_option maxRecDepth 100000
set_option maxHeartbeats 16000000
set_option linter.unusedSimpArgs false
set_option linter.unnecessarySimpa false
set_option linter.unusedVariables false
theorem takeK_bad {S : ActS} {ls : List LastT.den} {names : List ByteArray} {code : List EvT.den} {now : Int} {K : SV → List SB → Prop} (no : ¬ takeOk S names code now) (hK : K (.tup [out0, .int .i64 1]) (acH false S)) : TakeK S ls names code now K where
 bad := fun _ => hK
 none := fun h _ => (no h).elim
 again := fun h => (no h).elim
 full := fun h => (no h).elim
 poison := fun h => (no h).elim
 room := fun h => (no h).elim
 done := fun h => (no h).elim
theorem takeK_again {S : ActS} {ls : List LastT.den} {names : List ByteArray} {code : List EvT.den} {now : Int} {K : SV → List SB → Prop} {f : ByteArray} {s k : Int} {xs : List Int} {r : List LetT.den} {X : Mc × Int} (ok : takeOk S names code now) (hr : S.inb = (f, s, k, xs) :: r) (hX : X = runI 501 (startM names code f s k xs now (appE S.b S.ev))) (h0 : X.2 ≠ 0) (ht : S.tries + 1 < 3) (hK : K (.tup [.agg [.bool false, .bool false, .int .i64 X.2, .int .i64 X.1.steps, .nils], .int .i64 0]) (acH false { S with tries := S.tries + 1 })) : TakeK S ls names code now K where
 bad := fun h => (h ok).elim
 none := fun _ h => by rw [hr] at h; cases h
 again := fun _ f' s' k' xs' r' hr' X' hX' h1 h2 => by rw [hr] at hr'; cases hr'; rw [hX', ← hX]; exact hK
 full := fun _ f' s' k' xs' r' hr' X' hX' h1 h2 h3 => (h2 ht).elim
 poison := fun _ f' s' k' xs' r' hr' X' hX' h1 h2 h3 => (h2 ht).elim
 room := fun _ f' s' k' xs' r' hr' X' hX' h1 h2 => by
  rw [hr] at hr'; cases hr'; rw [hX', ← hX] at h1; exact (h0 h1).elim
 done := fun _ f' s' k' xs' r' hr' X' hX' h1 p' h2 => by
  rw [hr] at hr'; cases hr'; rw [hX', ← hX] at h1; exact (h0 h1).elim
theorem takeK_full {S : ActS} {ls : List LastT.den} {names : List ByteArray} {code : List EvT.den} {now : Int} {K : SV → List SB → Prop} {f : ByteArray} {s k : Int} {xs : List Int} {r : List LetT.den} {X : Mc × Int} (ok : takeOk S names code now) (hr : S.inb = (f, s, k, xs) :: r) (hX : X = runI 501 (startM names code f s k xs now (appE S.b S.ev))) (h0 : X.2 ≠ 0) (ht : ¬ S.tries + 1 < 3) (h8 : 8 ≤ S.poi.length) (hK : K (.tup [out0, .int .i64 8]) (acH false S)) : TakeK S ls names code now K where
 bad := fun h => (h ok).elim
 none := fun _ h => by rw [hr] at h; cases h
 again := fun _ f' s' k' xs' r' hr' X' hX' h1 h2 => (ht h2).elim
 full := fun _ f' s' k' xs' r' hr' X' hX' h1 h2 h3 => hK
 poison := fun _ f' s' k' xs' r' hr' X' hX' h1 h2 h3 => (h3 h8).elim
 room := fun _ f' s' k' xs' r' hr' X' hX' h1 h2 => by
  rw [hr] at hr'; cases hr'; rw [hX', ← hX] at h1; exact (h0 h1).elim
 done := fun _ f' s' k' xs' r' hr' X' hX' h1 p' h2 => by
  rw [hr] at hr'; cases hr'; rw [hX', ← hX] at h1; exact (h0 h1).elim
theorem takeK_pois {S : ActS} {ls : List LastT.den} {names : List ByteArray} {code : List EvT.den} {now : Int} {K : SV → List SB → Prop} {f : ByteArray} {s k : Int} {xs : List Int} {r : List LetT.den} {X : Mc × Int} (ok : takeOk S names code now) (hr : S.inb = (f, s, k, xs) :: r) (hX : X = runI 501 (startM names code f s k xs now (appE S.b S.ev))) (h0 : X.2 ≠ 0) (ht : ¬ S.tries + 1 < 3) (h8 : ¬ 8 ≤ S.poi.length) (hK : K (.tup [.agg [.bool false, .bool true, .int .i64 X.2, .int .i64 X.1.steps, .nils], .int .i64 0]) (acG true { S with inb := r, poi := S.poi ++ [(f, s, k, xs)], tries := 0 })) : TakeK S ls names code now K where
 bad := fun h => (h ok).elim
 none := fun _ h => by rw [hr] at h; cases h
 again := fun _ f' s' k' xs' r' hr' X' hX' h1 h2 => (ht h2).elim
 full := fun _ f' s' k' xs' r' hr' X' hX' h1 h2 h3 => (h8 h3).elim
 poison := fun _ f' s' k' xs' r' hr' X' hX' h1 h2 h3 => by rw [hr] at hr'; cases hr'; rw [hX', ← hX]; exact hK
 room := fun _ f' s' k' xs' r' hr' X' hX' h1 h2 => by
  rw [hr] at hr'; cases hr'; rw [hX', ← hX] at h1; exact (h0 h1).elim
 done := fun _ f' s' k' xs' r' hr' X' hX' h1 p' h2 => by
  rw [hr] at hr'; cases hr'; rw [hX', ← hX] at h1; exact (h0 h1).elim
theorem gt {S : ActS} {ls B} (h : GoodA S ls B) (t : Int) : GoodA { S with tries := t } ls B := ⟨h.b8, h.ev, h.e16, h.in8, h.inf, h.inv, h.rel⟩
theorem gp {S : ActS} {ls B} (h : GoodA S ls B) {x : LetT.den} {r : List LetT.den} (hr : S.inb = x :: r) (poi : List LetT.den) : GoodA { S with inb := r, poi := poi, tries := 0 } ls B := by
 have h1 := h.in8
 have h2 := h.inf
 rw [hr] at h1 h2
 simp only [List.length_cons] at h1
 simp only [List.all_cons, Bool.and_eq_true] at h2
 exact ⟨h.b8, h.ev, h.e16, by show r.length ≤ 8; omega, h2.2, h.inv, h.rel⟩
theorem takeR_bad {W : ActS} {names : List ByteArray} {code : List EvT.den} {now : Int} {K : SV → List SB → Prop} (no : ¬ takeOk W names code now) (hK : K (.tup [.ptr 0 0, out0, .int .i64 1]) (wcH false W)) : TakeR W names code now K where
 bad := fun _ => hK
 none := fun h _ => (no h).elim
 again := fun h => (no h).elim
 full := fun h => (no h).elim
 poison := fun h => (no h).elim
 room := fun h => (no h).elim
 done := fun h => (no h).elim
theorem takeR_none {W : ActS} {names : List ByteArray} {code : List EvT.den} {now : Int} {K : SV → List SB → Prop} (ok : takeOk W names code now) (hr : W.inb = []) (hK : K (.tup [.ptr 0 0, out0, .int .i64 5]) (wcH false W)) : TakeR W names code now K where
 bad := fun h => (h ok).elim
 none := fun _ _ => hK
 again := fun _ f' s' k' xs' r' hr' => by rw [hr] at hr'; cases hr'
 full := fun _ f' s' k' xs' r' hr' => by rw [hr] at hr'; cases hr'
 poison := fun _ f' s' k' xs' r' hr' => by rw [hr] at hr'; cases hr'
 room := fun _ f' s' k' xs' r' hr' => by rw [hr] at hr'; cases hr'
 done := fun _ f' s' k' xs' r' hr' => by rw [hr] at hr'; cases hr'
theorem takeR_again {W : ActS} {names : List ByteArray} {code : List EvT.den} {now : Int} {K : SV → List SB → Prop} {f : ByteArray} {s k : Int} {xs : List Int} {r : List LetT.den} {X : Mc × Int} (ok : takeOk W names code now) (hr : W.inb = (f, s, k, xs) :: r) (hX : X = runI 501 (startM names code f s k xs now (appE W.b W.ev))) (h0 : X.2 ≠ 0) (ht : W.tries + 1 < 3) (hK : K (.tup [.ptr 8 0, .agg [.bool false, .bool false, .int .i64 X.2, .int .i64 X.1.steps, .nils], .int .i64 0]) (wcH false W ++ wc8 true { W with tries := W.tries + 1 })) : TakeR W names code now K where
 bad := fun h => (h ok).elim
 none := fun _ h => by rw [hr] at h; cases h
 again := fun _ f' s' k' xs' r' hr' X' hX' h1 h2 => by rw [hr] at hr'; cases hr'; rw [hX', ← hX]; exact hK
 full := fun _ f' s' k' xs' r' hr' X' hX' h1 h2 h3 => (h2 ht).elim
 poison := fun _ f' s' k' xs' r' hr' X' hX' h1 h2 h3 => (h2 ht).elim
 room := fun _ f' s' k' xs' r' hr' X' hX' h1 h2 => by
  rw [hr] at hr'; cases hr'; rw [hX', ← hX] at h1; exact (h0 h1).elim
 done := fun _ f' s' k' xs' r' hr' X' hX' h1 p' h2 => by
  rw [hr] at hr'; cases hr'; rw [hX', ← hX] at h1; exact (h0 h1).elim
theorem takeR_full {W : ActS} {names : List ByteArray} {code : List EvT.den} {now : Int} {K : SV → List SB → Prop} {f : ByteArray} {s k : Int} {xs : List Int} {r : List LetT.den} {X : Mc × Int} (ok : takeOk W names code now) (hr : W.inb = (f, s, k, xs) :: r) (hX : X = runI 501 (startM names code f s k xs now (appE W.b W.ev))) (h0 : X.2 ≠ 0) (ht : ¬ W.tries + 1 < 3) (h8 : 8 ≤ W.poi.length) (hK : K (.tup [.ptr 0 0, out0, .int .i64 8]) (wcH false W)) : TakeR W names code now K where
 bad := fun h => (h ok).elim
 none := fun _ h => by rw [hr] at h; cases h
 again := fun _ f' s' k' xs' r' hr' X' hX' h1 h2 => (ht h2).elim
 full := fun _ f' s' k' xs' r' hr' X' hX' h1 h2 h3 => hK
 poison := fun _ f' s' k' xs' r' hr' X' hX' h1 h2 h3 => (h3 h8).elim
 room := fun _ f' s' k' xs' r' hr' X' hX' h1 h2 => by
  rw [hr] at hr'; cases hr'; rw [hX', ← hX] at h1; exact (h0 h1).elim
 done := fun _ f' s' k' xs' r' hr' X' hX' h1 p' h2 => by
  rw [hr] at hr'; cases hr'; rw [hX', ← hX] at h1; exact (h0 h1).elim
theorem takeR_pois {W : ActS} {names : List ByteArray} {code : List EvT.den} {now : Int} {K : SV → List SB → Prop} {f : ByteArray} {s k : Int} {xs : List Int} {r : List LetT.den} {X : Mc × Int} (ok : takeOk W names code now) (hr : W.inb = (f, s, k, xs) :: r) (hX : X = runI 501 (startM names code f s k xs now (appE W.b W.ev))) (h0 : X.2 ≠ 0) (ht : ¬ W.tries + 1 < 3) (h8 : ¬ 8 ≤ W.poi.length) (hK : K (.tup [.ptr 8 0, .agg [.bool false, .bool true, .int .i64 X.2, .int .i64 X.1.steps, .nils], .int .i64 0]) (wcH false W ++ wc8 true { W with inb := r, poi := W.poi ++ [(f, s, k, xs)], tries := 0 })) : TakeR W names code now K where
 bad := fun h => (h ok).elim
 none := fun _ h => by rw [hr] at h; cases h
 again := fun _ f' s' k' xs' r' hr' X' hX' h1 h2 => (ht h2).elim
 full := fun _ f' s' k' xs' r' hr' X' hX' h1 h2 h3 => (h8 h3).elim
 poison := fun _ f' s' k' xs' r' hr' X' hX' h1 h2 h3 => by rw [hr] at hr'; cases hr'; rw [hX', ← hX]; exact hK
 room := fun _ f' s' k' xs' r' hr' X' hX' h1 h2 => by
  rw [hr] at hr'; cases hr'; rw [hX', ← hX] at h1; exact (h0 h1).elim
 done := fun _ f' s' k' xs' r' hr' X' hX' h1 p' h2 => by
  rw [hr] at hr'; cases hr'; rw [hX', ← hX] at h1; exact (h0 h1).elim
theorem takeR_room {W : ActS} {names : List ByteArray} {code : List EvT.den} {now : Int} {K : SV → List SB → Prop} {f : ByteArray} {s k : Int} {xs : List Int} {r : List LetT.den} {X : Mc × Int} (ok : takeOk W names code now) (hr : W.inb = (f, s, k, xs) :: r) (hX : X = runI 501 (startM names code f s k xs now (appE W.b W.ev))) (h0 : X.2 = 0) (hs : sendT W.o (W.l, W.m) X.1.sent = .none) (hK : K (.tup [.ptr 0 0, out0, .int .i64 8]) (wcH false W)) : TakeR W names code now K where
 bad := fun h => (h ok).elim
 none := fun _ h => by rw [hr] at h; cases h
 again := fun _ f' s' k' xs' r' hr' X' hX' h1 => by rw [hr] at hr'; cases hr'; rw [hX', ← hX] at h1; exact (h1 h0).elim
 full := fun _ f' s' k' xs' r' hr' X' hX' h1 => by rw [hr] at hr'; cases hr'; rw [hX', ← hX] at h1; exact (h1 h0).elim
 poison := fun _ f' s' k' xs' r' hr' X' hX' h1 => by rw [hr] at hr'; cases hr'; rw [hX', ← hX] at h1; exact (h1 h0).elim
 room := fun _ f' s' k' xs' r' hr' X' hX' h1 h2 => hK
 done := fun _ f' s' k' xs' r' hr' X' hX' h1 p' h2 => by rw [hr] at hr'; cases hr'; rw [hX', ← hX, hs] at h2; cases h2
theorem takeR_done {W : ActS} {names : List ByteArray} {code : List EvT.den} {now : Int} {K : SV → List SB → Prop} {f : ByteArray} {s k : Int} {xs : List Int} {r : List LetT.den} {X : Mc × Int} (ok : takeOk W names code now) (hr : W.inb = (f, s, k, xs) :: r) (hX : X = runI 501 (startM names code f s k xs now (appE W.b W.ev))) (h0 : X.2 = 0) {p : List OutT.den × List LastT.den} (hs : sendT W.o (W.l, W.m) X.1.sent = some p) (hK : K (.tup [.ptr 8 0, .agg [.bool true, .bool false, .int .i64 0, .int .i64 X.1.steps, .sl true 48 TimT X.1.tim], .int .i64 0]) (wcH false W ++ wc8 true { W with inb := r, tries := 0, l := p.1, m := p.2, b := (jAdd W.b W.ev X.1.ev).1, ev := (jAdd W.b W.ev X.1.ev).2, v := W.v + (X.1.ev.length : Nat) })) : TakeR W names code now K where
 bad := fun h => (h ok).elim
 none := fun _ h => by rw [hr] at h; cases h
 again := fun _ f' s' k' xs' r' hr' X' hX' h1 => by rw [hr] at hr'; cases hr'; rw [hX', ← hX] at h1; exact (h1 h0).elim
 full := fun _ f' s' k' xs' r' hr' X' hX' h1 => by rw [hr] at hr'; cases hr'; rw [hX', ← hX] at h1; exact (h1 h0).elim
 poison := fun _ f' s' k' xs' r' hr' X' hX' h1 => by rw [hr] at hr'; cases hr'; rw [hX', ← hX] at h1; exact (h1 h0).elim
 room := fun _ f' s' k' xs' r' hr' X' hX' h1 h2 => by rw [hr] at hr'; cases hr'; rw [hX', ← hX, hs] at h2; cases h2
 done := fun _ f' s' k' xs' r' hr' X' hX' h1 p' h2 => by rw [hr] at hr'; cases hr'; rw [hX', ← hX, hs] at h2; cases h2; rw [hX', ← hX]; exact hK
/-! ### what the turns keep -/
structure TurnI (S : ActS) (ls : List LastT.den) (me : ByteArray) (i : Nat) : Prop where
 good : ∃ ls0, GoodA S ls0 (140737488355328 + 500 * (i : Int))
 rel : Rel S.m ls
 o : S.o = me
 v : 0 ≤ S.v ∧ S.v ≤ 1000 + 500 * (i : Int)
theorem Rel.two {m ls ls' : List (ByteArray × Int)} {n : Nat} (h1 : Rel m ls) (h2 : Rel m ls') (hk : KeysOk ls n) : Rel ls ls' :=
 ⟨by rw [← h1.1]; exact h2.1, fun to => by rw [(Rel.self hk).2 to, ← h1.2 to]; exact h2.2 to⟩
theorem TurnI.goodW {S : ActS} {ls me i} (h : TurnI S ls me i) (hi : i ≤ 20) : GoodW { S with m := ls } := by
 obtain ⟨ls0, g⟩ := h.good
 exact ⟨g.b8, g.ev, g.e16, g.in8, g.inf, g.inv.l32, by show ls.length ≤ 64; have := g.inv.m64; have := g.rel.1; have := h.rel.1; omega, ⟨h.v.1, by show S.v ≤ 1000000; have := h.v.2; omega⟩⟩
theorem TurnI.same {S : ActS} {ls me i} (h : TurnI S ls me i) (hm : me ≠ ByteArray.empty) : SameOk S ls := by
 obtain ⟨ls0, g⟩ := h.good
 exact ⟨by rw [h.o]; exact hm, g.b8, g.ev, g.e16, g.in8, g.inv.l32, by have := g.inv.m64; have := g.rel.1; have := h.rel.1; omega, h.rel⟩
theorem TurnI.step {S : ActS} {ls me i} (h : TurnI S ls me i) : TurnI S ls me (i + 1) := by
 obtain ⟨ls0, g⟩ := h.good
 exact ⟨⟨ls0, g.b8, g.ev, g.e16, g.in8, g.inf, g.inv.mono (by omega), g.rel⟩, h.rel, h.o, ⟨h.v.1, by have := h.v.2; omega⟩⟩
theorem TurnI.tri {S : ActS} {ls me i} (h : TurnI S ls me i) (t : Int) : TurnI { S with tries := t } ls me i := by
 obtain ⟨ls0, g⟩ := h.good
 exact ⟨⟨ls0, gt g t⟩, h.rel, h.o, h.v⟩
theorem TurnI.poi {S : ActS} {ls me i} (h : TurnI S ls me i) {x : LetT.den} {r : List LetT.den} (hr : S.inb = x :: r) (poi : List LetT.den) : TurnI { S with inb := r, poi := poi, tries := 0 } ls me i := by
 obtain ⟨ls0, g⟩ := h.good
 exact ⟨⟨ls0, gp g hr poi⟩, h.rel, h.o, h.v⟩
theorem TurnI.done {S : ActS} {ls me i} (h : TurnI S ls me i) (hi : i ≤ 20) {ls0 : List LastT.den} (g : GoodA S ls0 (140737488355328 + 500 * (i : Int))) {f : ByteArray} {s k : Int} {xs : List Int} {r : List LetT.den} (hr : S.inb = (f, s, k, xs) :: r) {M : Mc} (ro : RunOk M) {p : List OutT.den × List LastT.den} (hs : sendO S.o (S.l, ls0) M.sent = some p) :
  ∃ L2, sendT S.o (S.l, ls) M.sent = some (p.1, L2) ∧ TurnI (doneS S r M.ev p) L2 me (i + 1) ∧ IntKind.u64.wrap (S.v + (M.ev.length : Nat)) = S.v + (M.ev.length : Nat) := by
 obtain ⟨L2, h1, h2⟩ := (sendT_of (o := S.o) M.sent (S.l, ls0) ls (Rel.two g.rel h.rel g.inv.keys)).2 p hs
 obtain ⟨ls2, g2⟩ := done_good g (by omega) hr ro.ev ro.s5 hs
 have he := ro.e5
 have hw : IntKind.u64.wrap (S.v + (M.ev.length : Nat)) = S.v + (M.ev.length : Nat) := wu64 ⟨by have := h.v.1; omega, by have := h.v.2; omega⟩
 refine ⟨L2, h1, ⟨⟨ls2, g2.b8, g2.ev, g2.e16, g2.in8, g2.inf, g2.inv.mono (by omega), g2.rel⟩, h2, h.o, ?_⟩, hw⟩
 show 0 ≤ IntKind.u64.wrap (S.v + (M.ev.length : Nat)) ∧ IntKind.u64.wrap (S.v + (M.ev.length : Nat)) ≤ _
 rw [hw]
 exact ⟨by have := h.v.1; omega, by have := h.v.2; omega⟩
end Go.V
