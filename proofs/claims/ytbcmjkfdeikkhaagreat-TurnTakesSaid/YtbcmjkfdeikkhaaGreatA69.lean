/- A part of the proof layer, or functions of the given program in it: contracts and their proofs. -/
import Derived.Test.YtbcmjkfdeikkhaaGreatMA65
namespace Go.V
open Go.Proofs
set_option maxRecDepth 100000
set_option maxHeartbeats 16000000
set_option linter.unusedSimpArgs false
set_option linter.unnecessarySimpa false
set_option linter.unusedVariables false
def sendW (ls : List LastT.den) (to : ByteArray) : Int := IntKind.u64.wrap ((lookM .str (.int .u64) ls to).getD (0 : Int) + 1)
def sendBad (p : List OutT.den × List LastT.den) (to : ByteArray) : Prop := 32 ≤ p.1.length ∨ (lookM .str (.int .u64) p.2 to = none ∧ 64 ≤ p.2.length)
instance {p to} : Decidable (sendBad p to) := by unfold sendBad; exact inferInstance
def sendS (o : ByteArray) (p : List OutT.den × List LastT.den) (x : SentT.den) : Option (List OutT.den × List LastT.den) :=
 if keyOk x.1 = true ∧ ¬ sendBad p x.1 then some (p.1 ++ [(x.1, o, sendW p.2 x.1, x.2.1, [x.2.2])], updM .str (.int .u64) p.2 x.1 (sendW p.2 x.1)) else none
def sendO (o : ByteArray) (p : List OutT.den × List LastT.den) : List SentT.den → Option (List OutT.den × List LastT.den)
 | [] => some p
 | x :: r => match sendS o p x with
  | some q => sendO o q r
  | none => none
theorem sendO_snoc (o : ByteArray) (x : SentT.den) : ∀ (l : List SentT.den) (p : List OutT.den × List LastT.den), sendO o p (l ++ [x]) = (sendO o p l).bind (fun q => sendS o q x)
 | [], p => by
  show sendO o p [x] = _
  simp only [sendO, Option.bind_some]
  cases sendS o p x <;> rfl
 | y :: r, p => by
  show sendO o p (y :: (r ++ [x])) = _
  simp only [sendO]
  cases sendS o p y with
  | none => rfl
  | some q => exact sendO_snoc o x r q
theorem sendO_none (o : ByteArray) (x : SentT.den) : ∀ (l r : List SentT.den) (p q : List OutT.den × List LastT.den), sendO o p l = some q → sendS o q x = none → sendO o p (l ++ x :: r) = none
 | [], r, p, q, h, hx => by
  cases h
  show sendO o p (x :: r) = none
  simp only [sendO, hx]
 | y :: l, r, p, q, h, hx => by
  show sendO o p (y :: (l ++ x :: r)) = none
  simp only [sendO] at h ⊢
  cases hy : sendS o p y with
  | none => rfl
  | some p1 =>
   rw [hy] at h
   exact sendO_none o x l r p1 q h hx
def doneH (S : ActS) (r : List LetT.den) (ev : List EvT.den) (p : List OutT.den × List LastT.den) : List SB := [.struct [.ptr 1 0, .ptr 3 0, .ptr 8 0, .int .i64 0, .sl true 56 LetT S.poi], .struct [.arr 8 (.int .i64) (jAdd S.b S.ev ev).1, .own 2, .int .u64 (IntKind.u64.wrap (S.v + (ev.length : Nat)))], .row true 16 EvT (jAdd S.b S.ev ev).2, .struct [.own 4], .row true 56 LetT r,
 .struct [.str S.o, .own 6, .mp 7], .row false 72 OutT S.l, .map false .str (.int .u64) S.m, .struct [.str S.o, .own 9, .mp 10], .row true 72 OutT p.1, .map false .str (.int .u64) p.2]
def takeOk (S : ActS) (names : List ByteArray) (code : List EvT.den) (now : Int) : Prop := sndS S.tries S.inb.length S.poi = true ∧ formP names code = true ∧ 0 ≤ now
structure TakeK (S : ActS) (ls : List LastT.den) (names : List ByteArray) (code : List EvT.den) (now : Int) (K : SV → List SB → Prop) : Prop where
 bad : ¬ takeOk S names code now → K (.tup [out0, .int .i64 1]) (acH false S)
 none : takeOk S names code now → S.inb = [] → K (.tup [out0, .int .i64 5]) (acH false S)
 again : takeOk S names code now → ∀ f s k xs r, S.inb = (f, s, k, xs) :: r → ∀ X, X = runI 501 (startM names code f s k xs now (appE S.b S.ev)) → X.2 ≠ 0 → S.tries + 1 < 3 → K (.tup [.agg [.bool false, .bool false, .int .i64 X.2, .int .i64 X.1.steps, .nils], .int .i64 0]) (acH false { S with tries := S.tries + 1 })
 full : takeOk S names code now → ∀ f s k xs r, S.inb = (f, s, k, xs) :: r → ∀ X, X = runI 501 (startM names code f s k xs now (appE S.b S.ev)) → X.2 ≠ 0 → ¬ S.tries + 1 < 3 → 8 ≤ S.poi.length → K (.tup [out0, .int .i64 8]) (acH false S)
 poison : takeOk S names code now → ∀ f s k xs r, S.inb = (f, s, k, xs) :: r → ∀ X, X = runI 501 (startM names code f s k xs now (appE S.b S.ev)) → X.2 ≠ 0 → ¬ S.tries + 1 < 3 → ¬ 8 ≤ S.poi.length → K (.tup [.agg [.bool false, .bool true, .int .i64 X.2, .int .i64 X.1.steps, .nils], .int .i64 0]) (acG true { S with inb := r, poi := S.poi ++ [(f, s, k, xs)], tries := 0 })
 room : takeOk S names code now → ∀ f s k xs r, S.inb = (f, s, k, xs) :: r → ∀ X, X = runI 501 (startM names code f s k xs now (appE S.b S.ev)) → X.2 = 0 → sendO S.o (S.l, ls) X.1.sent = .none → K (.tup [out0, .int .i64 8]) (acH false S)
 done : takeOk S names code now → ∀ f s k xs r, S.inb = (f, s, k, xs) :: r → ∀ X, X = runI 501 (startM names code f s k xs now (appE S.b S.ev)) → X.2 = 0 → ∀ p, sendO S.o (S.l, ls) X.1.sent = some p → K (.tup [.agg [.bool true, .bool false, .int .i64 0, .int .i64 X.1.steps, .sl true 48 TimT X.1.tim], .int .i64 0]) (doneH S r X.1.ev p)
theorem c13_good {S : ActS} {K : SV → List SB → Prop} (h1 : OkA S) (h2 : sndS S.tries S.inb.length S.poi = false → K (.tup [.own 8, .int .i64 1]) (acH false S ++ [.row true 1 .byte []]))
  (h3 : sndS S.tries S.inb.length S.poi = true → RngA S → K (.tup [.own 8, .int .i64 0]) (acH false S ++ [.row true 1 .byte (actB S (outE S.o S.l S.m))])) : C16 [.ptr 0 0] (acH false S) K := .inl ⟨S, rfl, h1, h2, h3⟩
theorem c13_lack {n : Nat} {S : ActS} {K : SV → List SB → Prop} (h : K (.tup [.own (lackH n S).length, .int .i64 1]) (lackH n S ++ [.row true 1 .byte []])) : C16 [.ptr 0 0] (lackH n S) K := .inr ⟨n, S, rfl, h⟩
theorem c59_nil {code : List EvT.den} {st : List Int} {f : ByteArray} {s k : Int} {xs : List Int} {now : Int} {K : SV → List SB → Prop} (h8 : st.length = 8) (h : formP [] code = true ∧ f.size ≤ 40 ∧ xs.length ≤ 4 ∧ 0 ≤ now)
  (hK : ∀ X, X = runI 501 (startM [] code f s k xs now st) → (X.2 = 0 → K (.tup [resV X.1, .int .i64 0]) []) ∧ (X.2 ≠ 0 → K (.tup [resE X.1.steps, .int .i64 X.2]) [])) :
  C31 [.agg [.nils, .sl true 16 EvT code], .agg [.arr 8 (.int .i64) st], .agg [.str f, .int .u64 s, .int .i64 k, .sl true 8 (.int .i64) xs], .int .i64 now] [] K :=
 .inl ⟨rfl, h8, fun hh => (hh h).elim, fun _ => hK⟩
theorem c59_sl {names : List ByteArray} {code : List EvT.den} {st : List Int} {f : ByteArray} {s k : Int} {xs : List Int} {now : Int} {K : SV → List SB → Prop} (h8 : st.length = 8) (h : formP names code = true ∧ f.size ≤ 40 ∧ xs.length ≤ 4 ∧ 0 ≤ now)
  (hK : ∀ X, X = runI 501 (startM names code f s k xs now st) → (X.2 = 0 → K (.tup [resV X.1, .int .i64 0]) []) ∧ (X.2 ≠ 0 → K (.tup [resE X.1.steps, .int .i64 X.2]) [])) :
  C31 [.agg [.sl true 16 .str names, .sl true 16 EvT code], .agg [.arr 8 (.int .i64) st], .agg [.str f, .int .u64 s, .int .i64 k, .sl true 8 (.int .i64) xs], .int .i64 now] [] K :=
 .inr ⟨names, rfl, h8, fun hh => (hh h).elim, fun _ => hK⟩
theorem take_cut {t : Ty} {l : List t.den} {i : Nat} (h : i < l.length) : l = l.take i ++ elt t l i :: l.drop (i + 1) := by
 have h1 := take_elt h
 conv => lhs; rw [← List.take_append_drop (i + 1) l, ← h1]
 simp only [List.append_assoc, List.cons_append, List.nil_append]
def runX (S : ActS) (names : List ByteArray) (code : List EvT.den) (now : Int) : Mc × Int :=
 match S.inb with
 | (f, s, k, xs) :: _ => runI 501 (startM names code f s k xs now (appE S.b S.ev))
 | [] => (startM names code ByteArray.empty 0 0 [] 0 [], 0)
theorem c60_ok {S : ActS} {e n : Int} {K : SV → List SB → Prop} (h0 : 0 ≤ S.tries ∧ S.tries < 3) (h1 : S.inb ≠ []) (h2 : S.inb.length ≤ 1000) (h3 : S.poi.length ≤ 8)
   (k1 : S.tries + 1 < 3 → K (.tup [.agg [.bool false, .bool false, .int .i64 e, .int .i64 n, .nils], .int .i64 0]) (acH false { S with tries := S.tries + 1 }))
   (k2 : ¬ S.tries + 1 < 3 → 8 ≤ S.poi.length → K (.tup [out0, .int .i64 8]) (acH false S))
   (k3 : ¬ S.tries + 1 < 3 → ¬ 8 ≤ S.poi.length → ∀ x r, S.inb = x :: r → K (.tup [.agg [.bool false, .bool true, .int .i64 e, .int .i64 n, .nils], .int .i64 0]) (acG true { S with inb := r, poi := S.poi ++ [x], tries := 0 })) :
  C32 [.ptr 0 0, .agg [.bool false, .bool false, .int .i64 e, .int .i64 n, .nils]] (acH false S) K := ⟨S, rfl, h0, h1, h2, h3, k1, k2, k3⟩
theorem c44_ok {S : ActS} {K : SV → List SB → Prop} (h : OutOk S.o S.l S.m) (k : rng S.l → K (.own 3) (obH false S.o S.l S.m ++ [.row true 1 .byte (outE S.o S.l S.m)])) : C34 [.ptr 0 0] (obH false S.o S.l S.m) K := ⟨S.o, S.l, S.m, rfl, h, k⟩
theorem c61_ok {p : Bool} {bs : List UInt8} {o : ByteArray} {l : List OutT.den} {ls : List LastT.den} {K : SV → List SB → Prop} (h : decOut bs = some (o, l, ls)) (k : K (.tup [.ptr 0 0, .int .i64 0]) (obH true o l ls)) : C33 [.sl p 1 .byte bs] [] K := by
 refine ⟨fun h9 => ?_, fun o' l' ls' h9 => ?_⟩
 ·rw [h] at h9
  cases h9
 ·rw [h] at h9
  cases h9
  exact k
def L9 (S : ActS) (ls : List LastT.den) (X : Mc) : LoopAnn := { G := Nat × (List OutT.den × List LastT.den), I := fun g => ⟨[(1, .ptr 0 0), (6, .ptr 8 0), (12, .ptr 9 0), (14, .ptr 10 0), (83, .sl true 32 SentT X.sent), (84, .int .i64 X.sent.length), (85, .int .i64 g.1)], acH false S ++ [.struct [.bool false, .bool false, .int .i64 0, .int .i64 0, .nils], .struct [.arr 8 (.int .i64) X.st, .sl true 16 EvT X.ev, .sl true 32 SentT X.sent, .sl true 48 TimT X.tim, .int .i64 X.steps], .struct [.str S.o, .own 11, .mp 12], .row true 72 OutT g.2.1, .map false .str (.int .u64) g.2.2]⟩, R := fun _ g => g.1 ≤ X.sent.length ∧ sendO S.o (S.l, ls) (X.sent.take g.1) = some g.2 ∧ g.2.1.length ≤ 32 ∧ g.2.2.length ≤ 64, μ := fun g => X.sent.length - g.1 }
theorem L9_I {S ls X} (g : Nat × (List OutT.den × List LastT.den)) : (L9 S ls X).I g = ⟨[(1, .ptr 0 0), (6, .ptr 8 0), (12, .ptr 9 0), (14, .ptr 10 0), (83, .sl true 32 SentT X.sent), (84, .int .i64 X.sent.length), (85, .int .i64 g.1)], acH false S ++ [.struct [.bool false, .bool false, .int .i64 0, .int .i64 0, .nils], .struct [.arr 8 (.int .i64) X.st, .sl true 16 EvT X.ev, .sl true 32 SentT X.sent, .sl true 48 TimT X.tim, .int .i64 X.steps], .struct [.str S.o, .own 11, .mp 12], .row true 72 OutT g.2.1, .map false .str (.int .u64) g.2.2]⟩ := rfl
def C9 : Contract := fun args hp K => match args with
 | [.agg [x, .sl true 16 (.pair (.int .i64) (.int .i64)) code], .nilp, .int .i64 now] => hp = [] ∧ K (.tup [out0, .int .i64 1]) []
 | [.agg [x, .sl true 16 (.pair (.int .i64) (.int .i64)) code], .ptr 0 0, .int .i64 now] => onT .str 16 x fun names => (onA hp fun S => ∃ ls B, GoodA S ls B ∧ TakeK S ls names code now K) ∨ (∃ n S, hp = lackH n S ∧ K (.tup [out0, .int .i64 1]) hp)
 | _ => False
theorem s9 : Sound Tryz.prog 9 C9 := by
  refine sound_of_okF ok9 (.cons s16 (callable_of_okF ok16) (.cons s29 (callable_of_okF ok29) (.cons s30 (callable_of_okF ok30) (.cons s20 (callable_of_okF ok20) (.cons s31 (callable_of_okF ok31) (.cons s32 (callable_of_okF ok32) (.cons s34 (callable_of_okF ok34) (.cons s33 (callable_of_okF ok33) (.cons s24 (callable_of_okF ok24) (.cons s35 (callable_of_okF ok35) (.cons s26 (callable_of_okF ok26) .nil))))))))))) ?_
  intro args hp K h
  unfold C9 at h
  split at h
  · rename_i x code now
    obtain ⟨rfl, h⟩ := h
    refine ⟨by simp, [], ?_⟩
    simp (maxSteps:=9^9) only [a9, r9, go_sem, Nat.reduceLeDiff, Nat.reduceSub, Nat.reduceBEq, Nat.reduceAdd]
    exact h
  · rename_i x code now
    have hmx := maxLen_val
    rcases h with ⟨rfl, ⟨S, rfl, ls, B, hG, h⟩ | ⟨n, S, rfl, h⟩⟩ | ⟨names, rfl, ⟨S, rfl, ls, B, hG, h⟩ | ⟨n, S, rfl, h⟩⟩
    · refine ⟨by simp, [(1, L9 S ls (runX S [] code now).1)], ?_⟩
      have hr1 : ∀ bs : List UInt8, bs = outE S.o S.l S.m → rng S.l → decOut bs = some (S.o, S.l, ls) := fun bs hb hr => by rw [hb, enc_rel hG.inv.keys hG.rel]; exact dec_enc hG.inv hr
      unfold acH
      simp (maxSteps:=9^9) only [a9, r9, go_sem, Nat.reduceBEq, Nat.reduceAdd]
      refine c13_good (S := S) hG.ok (fun hs => ?_) (fun hs hr => ?_)
      · have hb := h.bad (fun hh => by rw [hh.1] at hs; cases hs)
        unfold acH at hb
        simp (maxSteps:=9^9) only [acH, go_sem, Int.reduceEq, Nat.reduceLeDiff, Nat.reduceSub, Nat.reduceLT, Nat.reduceBEq, Nat.reduceAdd]
        exact hb
      simp (maxSteps:=9^9) only [acH, C29, go_sem, Nat.reduceLeDiff, Nat.reduceSub, Nat.reduceLT, Nat.reduceBEq, Nat.reduceAdd]
      refine sw_intro (fun hf => ?_) (fun hf => ?_)
      case refine_2 =>
        have hb := h.bad (fun hh => by rw [hh.2.1] at hf; cases hf)
        unfold acH at hb
        exact hb
      rintro c rfl
      refine sw_intro (fun hn => ?_) (fun hn => ?_) <;> simp only [decide_eq_true_eq, decide_eq_false_iff_not] at hn
      · have hb := h.bad (fun hh => absurd hh.2.2 (by omega))
        unfold acH at hb
        exact hb
      have hok : takeOk S [] code now := ⟨hs, hf, by omega⟩
      simp (maxSteps:=9^9) only [C30, inH, C20, go_sem, Nat.reduceLeDiff, Nat.reduceSub, Nat.reduceLT, Nat.reduceBEq, Nat.reduceAdd]
      refine ⟨by have := hG.in8; omega, fun h0 => ?_, fun f s k xs r hin => ?_⟩
      · have hb := h.none hok h0
        unfold acH at hb
        exact hb
      have hfm : fmL (f, s, k, xs) = true := List.all_eq_true.1 hG.inf _ (by rw [hin]; exact List.mem_cons_self)
      rw [fmL_iff] at hfm
      have hlet : formP [] code = true ∧ f.size ≤ 40 ∧ (xs : List Int).length ≤ 4 ∧ 0 ≤ now := ⟨hf, hfm.1, hfm.2, by omega⟩
      have h8 : (appE S.b S.ev).length = 8 := by rw [appE_length]; exact hG.b8
      have he16 : S.ev.length ≤ 1000 := by have := hG.e16; omega
      refine ⟨⟨hG.b8, hG.ev, he16, c59_nil h8 hlet (fun X hX => ⟨fun h0 => ?_, fun h1 => ?_⟩), c59_nil h8 hlet (fun X hX => ⟨fun h0 => ?_, fun h1 => ?_⟩)⟩, hG.b8, hG.ev, he16, c59_nil h8 hlet (fun X hX => ⟨fun h0 => ?_, fun h1 => ?_⟩)⟩
      · simp (maxSteps:=9^9) only [resV, go_sem, Nat.reduceLeDiff, Nat.reduceSub, Nat.reduceMul, Nat.reduceBEq, Nat.reduceAdd]
        refine c44_ok (S := S) hG.ok.out (fun hrg => ?_)
        simp (maxSteps:=9^9) only [obH, go_sem, Nat.reduceSub, Nat.reduceLT, Nat.reduceBEq, Nat.reduceAdd]
        refine ⟨rfl, c61_ok (hr1 _ rfl hrg) ?_⟩
        simp (maxSteps:=9^9) only [obH, go_sem, Nat.reduceLeDiff, Nat.reduceSub, Nat.reduceMul, Nat.reduceLT, Nat.reduceBEq, Nat.reduceAdd]
        have hXe : X = runX S [] code now := by
          unfold runX
          rw [hin]
          exact hX
        have hff := formP_iff.1 hf
        have hro : RunOk X.1 := by
          rw [hX]
          exact runI_ok hff.1.2 hff.2.2 501 _ (startM_inv h8) rfl
        rw [← hXe]
        rintro _ hln m rfl
        refine loop_intro (A := L9 S ls X.1) ((0 : Nat), (S.l, ls)) ?_ ⟨Nat.zero_le _, rfl, hG.inv.l32, hG.inv.m64⟩ ?_
        · simp (maxSteps:=9^9) only [L9_I, acH, go_sem, Nat.reduceBEq, Nat.reduceAdd]
          rfl
        · rintro ⟨i, p⟩ ⟨(hi : i ≤ X.1.sent.length), (hsd : sendO S.o (S.l, ls) (X.1.sent.take i) = some p), (hl32 : p.1.length ≤ 32), (hm64 : p.2.length ≤ 64)⟩
          simp (maxSteps:=9^9) only [L9_I, acH, C24, obH, C35, inH, C26, jH, go_sem, Int.reduceEq, Nat.reduceLeDiff, Nat.reduceSub, Nat.reduceMul, Nat.reduceLT, Nat.reduceBEq, Nat.reduceAdd]
          rintro c rfl
          refine sw_intro (fun hc => ?_) (fun hc => ?_) <;> simp only [decide_eq_true_eq, decide_eq_false_iff_not] at hc
          · have hbad : sendS S.o p (elt SentT X.1.sent i) = none → sendO S.o (S.l, ls) X.1.sent = none := fun h9 => by
              have e := take_cut (t := SentT) hc
              exact (congrArg (sendO S.o (S.l, ls)) e).trans (sendO_none _ _ _ _ _ _ hsd h9)
            have hb : sendS S.o p (elt SentT X.1.sent i) = none → _ := fun h9 => h.room hok f s k xs r hin X hX h0 (hbad h9)
            unfold acH at hb
            refine nd_intro hc ⟨rfl, hG.ok.out.o0, by omega, by omega, fun h9 => hb (if_neg (fun hh => h9 hh.1)), fun _ h9 => hb (if_neg (fun hh => hh.2 h9)), fun h9 h10 sr hsr => ?_⟩
            rintro _ _ m hm
            rw [w64 (by omega)] at hm
            subst hm
            have hnew : sendS S.o p (elt SentT X.1.sent i) = some (p.1 ++ [((elt SentT X.1.sent i).1, S.o, sr, (elt SentT X.1.sent i).2.1, [(elt SentT X.1.sent i).2.2])], updM .str (.int .u64) p.2 (elt SentT X.1.sent i).1 sr) := by
              rw [hsr]
              exact if_pos ⟨h9, h10⟩
            refine lpE_intro (A := L9 S ls X.1) (i + 1, (p.1 ++ [((elt SentT X.1.sent i).1, S.o, sr, (elt SentT X.1.sent i).2.1, [(elt SentT X.1.sent i).2.2])], updM .str (.int .u64) p.2 (elt SentT X.1.sent i).1 sr)) (by simp (maxSteps:=9^9) only [L9_I, acH, go_sem, Nat.reduceBEq, Nat.reduceAdd]; rfl) ⟨hc, ?_, ?_, ?_⟩ ?_
            · show sendO S.o (S.l, ls) (List.take (i + 1) X.1.sent) = _
              have e := take_elt (t := SentT) hc
              rw [← e, sendO_snoc, hsd]
              exact hnew
            · simp only [List.length_append, List.length_cons, List.length_nil]
              omega
            · by_cases hq : lookM .str (.int .u64) p.2 (elt SentT X.1.sent i).1 = none
              · show (updM .str (.int .u64) p.2 (elt SentT X.1.sent i).1 sr).length ≤ 64
                rw [updM_length_new (vt := .int .u64) hq]
                have : ¬ 64 ≤ p.2.length := fun h11 => h10 (.inr ⟨hq, h11⟩)
                omega
              · show (updM .str (.int .u64) p.2 (elt SentT X.1.sent i).1 sr).length ≤ 64
                rw [updM_length_old (vt := .int .u64) hq]
                exact hm64
            · show X.1.sent.length - (i + 1) < X.1.sent.length - i
              omega
          · rw [List.take_of_length_le (by omega)] at hsd
            have hb := h.done hok f s k xs r hin X hX h0 p hsd
            unfold doneH at hb
            refine ⟨by have := hG.in8; omega, fun h9 => ?_, fun f' s' k' xs' r' h9 => ?_⟩
            · rw [hin] at h9
              cases h9
            · rw [hin] at h9
              cases h9
              refine ⟨hG.b8, hG.ev, hG.e16, by have := hro.e5; omega, fun h10 => ?_, fun _ => hb⟩
              rw [hro.ev] at h10
              cases h10
      · simp (maxSteps:=9^9) only [resE, go_sem, Nat.reduceLeDiff, Nat.reduceSub, Nat.reduceMul, Nat.reduceBEq, Nat.reduceAdd]
        rintro c rfl
        refine sw_intro (fun hc => ?_) (fun hc => ?_) <;> simp only [Bool.not_eq_true', Bool.not_eq_false', decide_eq_true_eq, decide_eq_false_iff_not] at hc
        case refine_2 => exact (h1 hc).elim
        have hsd := hs
        simp only [sndS, Bool.and_eq_true, decide_eq_true_eq] at hsd
        refine c60_ok (S := S) ⟨hsd.1, hsd.2.1⟩ (by rw [hin]; exact List.cons_ne_nil _ _) (by have := hG.in8; omega) hsd.2.2.2.1 (fun k1 => ?_) (fun k1 k2 => ?_) (fun k1 k2 x r' hx => ?_)
        · have hb := h.again hok f s k xs r hin X hX h1 k1
          unfold acH at hb
          simp (maxSteps:=9^9) only [acH, go_sem, Nat.reduceLeDiff, Nat.reduceSub, Nat.reduceLT, Nat.reduceBEq, Nat.reduceAdd]
          exact hb
        · have hb := h.full hok f s k xs r hin X hX h1 k1 k2
          unfold acH out0 at hb
          simp (maxSteps:=9^9) only [acH, out0, go_sem, Nat.reduceLeDiff, Nat.reduceSub, Nat.reduceLT, Nat.reduceBEq, Nat.reduceAdd]
          exact hb
        · rw [hin] at hx
          cases hx
          have hb := h.poison hok f s k xs r hin X hX h1 k1 k2
          unfold acG at hb
          simp (maxSteps:=9^9) only [acG, go_sem, Nat.reduceLeDiff, Nat.reduceSub, Nat.reduceLT, Nat.reduceBEq, Nat.reduceAdd]
          exact hb
      · simp (maxSteps:=9^9) only [resV, go_sem, Nat.reduceLeDiff, Nat.reduceSub, Nat.reduceMul, Nat.reduceBEq, Nat.reduceAdd]
        refine c44_ok (S := S) hG.ok.out (fun hrg => ?_)
        simp (maxSteps:=9^9) only [obH, go_sem, Nat.reduceSub, Nat.reduceLT, Nat.reduceBEq, Nat.reduceAdd]
        refine ⟨rfl, c61_ok (hr1 _ rfl hrg) ?_⟩
        simp (maxSteps:=9^9) only [obH, go_sem, Nat.reduceLeDiff, Nat.reduceSub, Nat.reduceMul, Nat.reduceLT, Nat.reduceBEq, Nat.reduceAdd]
        have hXe : X = runX S [] code now := by
          unfold runX
          rw [hin]
          exact hX
        have hff := formP_iff.1 hf
        have hro : RunOk X.1 := by
          rw [hX]
          exact runI_ok hff.1.2 hff.2.2 501 _ (startM_inv h8) rfl
        rw [← hXe]
        rintro _ hln m rfl
        refine loop_intro (A := L9 S ls X.1) ((0 : Nat), (S.l, ls)) ?_ ⟨Nat.zero_le _, rfl, hG.inv.l32, hG.inv.m64⟩ ?_
        · simp (maxSteps:=9^9) only [L9_I, acH, go_sem, Nat.reduceBEq, Nat.reduceAdd]
          rfl
        · rintro ⟨i, p⟩ ⟨(hi : i ≤ X.1.sent.length), (hsd : sendO S.o (S.l, ls) (X.1.sent.take i) = some p), (hl32 : p.1.length ≤ 32), (hm64 : p.2.length ≤ 64)⟩
          simp (maxSteps:=9^9) only [L9_I, acH, C24, obH, C35, inH, C26, jH, go_sem, Int.reduceEq, Nat.reduceLeDiff, Nat.reduceSub, Nat.reduceMul, Nat.reduceLT, Nat.reduceBEq, Nat.reduceAdd]
          rintro c rfl
          refine sw_intro (fun hc => ?_) (fun hc => ?_) <;> simp only [decide_eq_true_eq, decide_eq_false_iff_not] at hc
          · have hbad : sendS S.o p (elt SentT X.1.sent i) = none → sendO S.o (S.l, ls) X.1.sent = none := fun h9 => by
              have e := take_cut (t := SentT) hc
              exact (congrArg (sendO S.o (S.l, ls)) e).trans (sendO_none _ _ _ _ _ _ hsd h9)
            have hb : sendS S.o p (elt SentT X.1.sent i) = none → _ := fun h9 => h.room hok f s k xs r hin X hX h0 (hbad h9)
            unfold acH at hb
            refine nd_intro hc ⟨rfl, hG.ok.out.o0, by omega, by omega, fun h9 => hb (if_neg (fun hh => h9 hh.1)), fun _ h9 => hb (if_neg (fun hh => hh.2 h9)), fun h9 h10 sr hsr => ?_⟩
            rintro _ _ m hm
            rw [w64 (by omega)] at hm
            subst hm
            have hnew : sendS S.o p (elt SentT X.1.sent i) = some (p.1 ++ [((elt SentT X.1.sent i).1, S.o, sr, (elt SentT X.1.sent i).2.1, [(elt SentT X.1.sent i).2.2])], updM .str (.int .u64) p.2 (elt SentT X.1.sent i).1 sr) := by
              rw [hsr]
              exact if_pos ⟨h9, h10⟩
            refine lpE_intro (A := L9 S ls X.1) (i + 1, (p.1 ++ [((elt SentT X.1.sent i).1, S.o, sr, (elt SentT X.1.sent i).2.1, [(elt SentT X.1.sent i).2.2])], updM .str (.int .u64) p.2 (elt SentT X.1.sent i).1 sr)) (by simp (maxSteps:=9^9) only [L9_I, acH, go_sem, Nat.reduceBEq, Nat.reduceAdd]; rfl) ⟨hc, ?_, ?_, ?_⟩ ?_
            · show sendO S.o (S.l, ls) (List.take (i + 1) X.1.sent) = _
              have e := take_elt (t := SentT) hc
              rw [← e, sendO_snoc, hsd]
              exact hnew
            · simp only [List.length_append, List.length_cons, List.length_nil]
              omega
            · by_cases hq : lookM .str (.int .u64) p.2 (elt SentT X.1.sent i).1 = none
              · show (updM .str (.int .u64) p.2 (elt SentT X.1.sent i).1 sr).length ≤ 64
                rw [updM_length_new (vt := .int .u64) hq]
                have : ¬ 64 ≤ p.2.length := fun h11 => h10 (.inr ⟨hq, h11⟩)
                omega
              · show (updM .str (.int .u64) p.2 (elt SentT X.1.sent i).1 sr).length ≤ 64
                rw [updM_length_old (vt := .int .u64) hq]
                exact hm64
            · show X.1.sent.length - (i + 1) < X.1.sent.length - i
              omega
          · rw [List.take_of_length_le (by omega)] at hsd
            have hb := h.done hok f s k xs r hin X hX h0 p hsd
            unfold doneH at hb
            refine ⟨by have := hG.in8; omega, fun h9 => ?_, fun f' s' k' xs' r' h9 => ?_⟩
            · rw [hin] at h9
              cases h9
            · rw [hin] at h9
              cases h9
              refine ⟨hG.b8, hG.ev, hG.e16, by have := hro.e5; omega, fun h10 => ?_, fun _ => hb⟩
              rw [hro.ev] at h10
              cases h10
      · simp (maxSteps:=9^9) only [resE, go_sem, Nat.reduceLeDiff, Nat.reduceSub, Nat.reduceMul, Nat.reduceBEq, Nat.reduceAdd]
        rintro c rfl
        refine sw_intro (fun hc => ?_) (fun hc => ?_) <;> simp only [Bool.not_eq_true', Bool.not_eq_false', decide_eq_true_eq, decide_eq_false_iff_not] at hc
        case refine_2 => exact (h1 hc).elim
        have hsd := hs
        simp only [sndS, Bool.and_eq_true, decide_eq_true_eq] at hsd
        refine c60_ok (S := S) ⟨hsd.1, hsd.2.1⟩ (by rw [hin]; exact List.cons_ne_nil _ _) (by have := hG.in8; omega) hsd.2.2.2.1 (fun k1 => ?_) (fun k1 k2 => ?_) (fun k1 k2 x r' hx => ?_)
        · have hb := h.again hok f s k xs r hin X hX h1 k1
          unfold acH at hb
          simp (maxSteps:=9^9) only [acH, go_sem, Nat.reduceLeDiff, Nat.reduceSub, Nat.reduceLT, Nat.reduceBEq, Nat.reduceAdd]
          exact hb
        · have hb := h.full hok f s k xs r hin X hX h1 k1 k2
          unfold acH out0 at hb
          simp (maxSteps:=9^9) only [acH, out0, go_sem, Nat.reduceLeDiff, Nat.reduceSub, Nat.reduceLT, Nat.reduceBEq, Nat.reduceAdd]
          exact hb
        · rw [hin] at hx
          cases hx
          have hb := h.poison hok f s k xs r hin X hX h1 k1 k2
          unfold acG at hb
          simp (maxSteps:=9^9) only [acG, go_sem, Nat.reduceLeDiff, Nat.reduceSub, Nat.reduceLT, Nat.reduceBEq, Nat.reduceAdd]
          exact hb
      · simp (maxSteps:=9^9) only [resV, go_sem, Nat.reduceLeDiff, Nat.reduceSub, Nat.reduceMul, Nat.reduceBEq, Nat.reduceAdd]
        refine c44_ok (S := S) hG.ok.out (fun hrg => ?_)
        simp (maxSteps:=9^9) only [obH, go_sem, Nat.reduceSub, Nat.reduceLT, Nat.reduceBEq, Nat.reduceAdd]
        refine ⟨rfl, c61_ok (hr1 _ rfl hrg) ?_⟩
        simp (maxSteps:=9^9) only [obH, go_sem, Nat.reduceLeDiff, Nat.reduceSub, Nat.reduceMul, Nat.reduceLT, Nat.reduceBEq, Nat.reduceAdd]
        have hXe : X = runX S [] code now := by
          unfold runX
          rw [hin]
          exact hX
        have hff := formP_iff.1 hf
        have hro : RunOk X.1 := by
          rw [hX]
          exact runI_ok hff.1.2 hff.2.2 501 _ (startM_inv h8) rfl
        rw [← hXe]
        rintro _ hln m rfl
        refine loop_intro (A := L9 S ls X.1) ((0 : Nat), (S.l, ls)) ?_ ⟨Nat.zero_le _, rfl, hG.inv.l32, hG.inv.m64⟩ ?_
        · simp (maxSteps:=9^9) only [L9_I, acH, go_sem, Nat.reduceBEq, Nat.reduceAdd]
          rfl
        · rintro ⟨i, p⟩ ⟨(hi : i ≤ X.1.sent.length), (hsd : sendO S.o (S.l, ls) (X.1.sent.take i) = some p), (hl32 : p.1.length ≤ 32), (hm64 : p.2.length ≤ 64)⟩
          simp (maxSteps:=9^9) only [L9_I, acH, C24, obH, C35, inH, C26, jH, go_sem, Int.reduceEq, Nat.reduceLeDiff, Nat.reduceSub, Nat.reduceMul, Nat.reduceLT, Nat.reduceBEq, Nat.reduceAdd]
          rintro c rfl
          refine sw_intro (fun hc => ?_) (fun hc => ?_) <;> simp only [decide_eq_true_eq, decide_eq_false_iff_not] at hc
          · have hbad : sendS S.o p (elt SentT X.1.sent i) = none → sendO S.o (S.l, ls) X.1.sent = none := fun h9 => by
              have e := take_cut (t := SentT) hc
              exact (congrArg (sendO S.o (S.l, ls)) e).trans (sendO_none _ _ _ _ _ _ hsd h9)
            have hb : sendS S.o p (elt SentT X.1.sent i) = none → _ := fun h9 => h.room hok f s k xs r hin X hX h0 (hbad h9)
            unfold acH at hb
            refine nd_intro hc ⟨rfl, hG.ok.out.o0, by omega, by omega, fun h9 => hb (if_neg (fun hh => h9 hh.1)), fun _ h9 => hb (if_neg (fun hh => hh.2 h9)), fun h9 h10 sr hsr => ?_⟩
            rintro _ _ m hm
            rw [w64 (by omega)] at hm
            subst hm
            have hnew : sendS S.o p (elt SentT X.1.sent i) = some (p.1 ++ [((elt SentT X.1.sent i).1, S.o, sr, (elt SentT X.1.sent i).2.1, [(elt SentT X.1.sent i).2.2])], updM .str (.int .u64) p.2 (elt SentT X.1.sent i).1 sr) := by
              rw [hsr]
              exact if_pos ⟨h9, h10⟩
            refine lpE_intro (A := L9 S ls X.1) (i + 1, (p.1 ++ [((elt SentT X.1.sent i).1, S.o, sr, (elt SentT X.1.sent i).2.1, [(elt SentT X.1.sent i).2.2])], updM .str (.int .u64) p.2 (elt SentT X.1.sent i).1 sr)) (by simp (maxSteps:=9^9) only [L9_I, acH, go_sem, Nat.reduceBEq, Nat.reduceAdd]; rfl) ⟨hc, ?_, ?_, ?_⟩ ?_
            · show sendO S.o (S.l, ls) (List.take (i + 1) X.1.sent) = _
              have e := take_elt (t := SentT) hc
              rw [← e, sendO_snoc, hsd]
              exact hnew
            · simp only [List.length_append, List.length_cons, List.length_nil]
              omega
            · by_cases hq : lookM .str (.int .u64) p.2 (elt SentT X.1.sent i).1 = none
              · show (updM .str (.int .u64) p.2 (elt SentT X.1.sent i).1 sr).length ≤ 64
                rw [updM_length_new (vt := .int .u64) hq]
                have : ¬ 64 ≤ p.2.length := fun h11 => h10 (.inr ⟨hq, h11⟩)
                omega
              · show (updM .str (.int .u64) p.2 (elt SentT X.1.sent i).1 sr).length ≤ 64
                rw [updM_length_old (vt := .int .u64) hq]
                exact hm64
            · show X.1.sent.length - (i + 1) < X.1.sent.length - i
              omega
          · rw [List.take_of_length_le (by omega)] at hsd
            have hb := h.done hok f s k xs r hin X hX h0 p hsd
            unfold doneH at hb
            refine ⟨by have := hG.in8; omega, fun h9 => ?_, fun f' s' k' xs' r' h9 => ?_⟩
            · rw [hin] at h9
              cases h9
            · rw [hin] at h9
              cases h9
              refine ⟨hG.b8, hG.ev, hG.e16, by have := hro.e5; omega, fun h10 => ?_, fun _ => hb⟩
              rw [hro.ev] at h10
              cases h10
      · simp (maxSteps:=9^9) only [resE, go_sem, Nat.reduceLeDiff, Nat.reduceSub, Nat.reduceMul, Nat.reduceBEq, Nat.reduceAdd]
        rintro c rfl
        refine sw_intro (fun hc => ?_) (fun hc => ?_) <;> simp only [Bool.not_eq_true', Bool.not_eq_false', decide_eq_true_eq, decide_eq_false_iff_not] at hc
        case refine_2 => exact (h1 hc).elim
        have hsd := hs
        simp only [sndS, Bool.and_eq_true, decide_eq_true_eq] at hsd
        refine c60_ok (S := S) ⟨hsd.1, hsd.2.1⟩ (by rw [hin]; exact List.cons_ne_nil _ _) (by have := hG.in8; omega) hsd.2.2.2.1 (fun k1 => ?_) (fun k1 k2 => ?_) (fun k1 k2 x r' hx => ?_)
        · have hb := h.again hok f s k xs r hin X hX h1 k1
          unfold acH at hb
          simp (maxSteps:=9^9) only [acH, go_sem, Nat.reduceLeDiff, Nat.reduceSub, Nat.reduceLT, Nat.reduceBEq, Nat.reduceAdd]
          exact hb
        · have hb := h.full hok f s k xs r hin X hX h1 k1 k2
          unfold acH out0 at hb
          simp (maxSteps:=9^9) only [acH, out0, go_sem, Nat.reduceLeDiff, Nat.reduceSub, Nat.reduceLT, Nat.reduceBEq, Nat.reduceAdd]
          exact hb
        · rw [hin] at hx
          cases hx
          have hb := h.poison hok f s k xs r hin X hX h1 k1 k2
          unfold acG at hb
          simp (maxSteps:=9^9) only [acG, go_sem, Nat.reduceLeDiff, Nat.reduceSub, Nat.reduceLT, Nat.reduceBEq, Nat.reduceAdd]
          exact hb
    · refine ⟨by simp, [], ?_⟩
      match n with
      | 0 =>
        unfold lackH at h ⊢
        simp (maxSteps:=9^9) only [a9, r9, go_sem, Nat.reduceBEq, Nat.reduceAdd]
        refine c13_lack (n := 0) (S := S) ?_
        simp (maxSteps:=9^9) only [lackH, go_sem, Int.reduceEq, Nat.reduceLeDiff, Nat.reduceSub, Nat.reduceLT, Nat.reduceBEq, Nat.reduceAdd]
        exact h
      | 1 =>
        unfold lackH at h ⊢
        simp (maxSteps:=9^9) only [a9, r9, go_sem, Nat.reduceBEq, Nat.reduceAdd]
        refine c13_lack (n := 1) (S := S) ?_
        simp (maxSteps:=9^9) only [lackH, go_sem, Int.reduceEq, Nat.reduceLeDiff, Nat.reduceSub, Nat.reduceLT, Nat.reduceBEq, Nat.reduceAdd]
        exact h
      | 2 =>
        unfold lackH at h ⊢
        simp (maxSteps:=9^9) only [a9, r9, go_sem, Nat.reduceBEq, Nat.reduceAdd]
        refine c13_lack (n := 2) (S := S) ?_
        simp (maxSteps:=9^9) only [lackH, go_sem, Int.reduceEq, Nat.reduceLeDiff, Nat.reduceSub, Nat.reduceLT, Nat.reduceBEq, Nat.reduceAdd]
        exact h
      | n + 3 =>
        unfold lackH at h ⊢
        simp (maxSteps:=9^9) only [a9, r9, go_sem, Nat.reduceBEq, Nat.reduceAdd]
        refine c13_lack (n := 3) (S := S) ?_
        simp (maxSteps:=9^9) only [lackH, go_sem, Int.reduceEq, Nat.reduceLeDiff, Nat.reduceSub, Nat.reduceLT, Nat.reduceBEq, Nat.reduceAdd]
        exact h
    · refine ⟨by simp, [(1, L9 S ls (runX S names code now).1)], ?_⟩
      have hr1 : ∀ bs : List UInt8, bs = outE S.o S.l S.m → rng S.l → decOut bs = some (S.o, S.l, ls) := fun bs hb hr => by rw [hb, enc_rel hG.inv.keys hG.rel]; exact dec_enc hG.inv hr
      unfold acH
      simp (maxSteps:=9^9) only [a9, r9, go_sem, Nat.reduceBEq, Nat.reduceAdd]
      refine c13_good (S := S) hG.ok (fun hs => ?_) (fun hs hr => ?_)
      · have hb := h.bad (fun hh => by rw [hh.1] at hs; cases hs)
        unfold acH at hb
        simp (maxSteps:=9^9) only [acH, go_sem, Int.reduceEq, Nat.reduceLeDiff, Nat.reduceSub, Nat.reduceLT, Nat.reduceBEq, Nat.reduceAdd]
        exact hb
      simp (maxSteps:=9^9) only [acH, C29, go_sem, Nat.reduceLeDiff, Nat.reduceSub, Nat.reduceLT, Nat.reduceBEq, Nat.reduceAdd]
      refine sw_intro (fun hf => ?_) (fun hf => ?_)
      case refine_2 =>
        have hb := h.bad (fun hh => by rw [hh.2.1] at hf; cases hf)
        unfold acH at hb
        exact hb
      rintro c rfl
      refine sw_intro (fun hn => ?_) (fun hn => ?_) <;> simp only [decide_eq_true_eq, decide_eq_false_iff_not] at hn
      · have hb := h.bad (fun hh => absurd hh.2.2 (by omega))
        unfold acH at hb
        exact hb
      have hok : takeOk S names code now := ⟨hs, hf, by omega⟩
      simp (maxSteps:=9^9) only [C30, inH, C20, go_sem, Nat.reduceLeDiff, Nat.reduceSub, Nat.reduceLT, Nat.reduceBEq, Nat.reduceAdd]
      refine ⟨by have := hG.in8; omega, fun h0 => ?_, fun f s k xs r hin => ?_⟩
      · have hb := h.none hok h0
        unfold acH at hb
        exact hb
      have hfm : fmL (f, s, k, xs) = true := List.all_eq_true.1 hG.inf _ (by rw [hin]; exact List.mem_cons_self)
      rw [fmL_iff] at hfm
      have hlet : formP names code = true ∧ f.size ≤ 40 ∧ (xs : List Int).length ≤ 4 ∧ 0 ≤ now := ⟨hf, hfm.1, hfm.2, by omega⟩
      have h8 : (appE S.b S.ev).length = 8 := by rw [appE_length]; exact hG.b8
      have he16 : S.ev.length ≤ 1000 := by have := hG.e16; omega
      refine ⟨⟨hG.b8, hG.ev, he16, c59_sl h8 hlet (fun X hX => ⟨fun h0 => ?_, fun h1 => ?_⟩), c59_sl h8 hlet (fun X hX => ⟨fun h0 => ?_, fun h1 => ?_⟩)⟩, hG.b8, hG.ev, he16, c59_sl h8 hlet (fun X hX => ⟨fun h0 => ?_, fun h1 => ?_⟩)⟩
      · simp (maxSteps:=9^9) only [resV, go_sem, Nat.reduceLeDiff, Nat.reduceSub, Nat.reduceMul, Nat.reduceBEq, Nat.reduceAdd]
        refine c44_ok (S := S) hG.ok.out (fun hrg => ?_)
        simp (maxSteps:=9^9) only [obH, go_sem, Nat.reduceSub, Nat.reduceLT, Nat.reduceBEq, Nat.reduceAdd]
        refine ⟨rfl, c61_ok (hr1 _ rfl hrg) ?_⟩
        simp (maxSteps:=9^9) only [obH, go_sem, Nat.reduceLeDiff, Nat.reduceSub, Nat.reduceMul, Nat.reduceLT, Nat.reduceBEq, Nat.reduceAdd]
        have hXe : X = runX S names code now := by
          unfold runX
          rw [hin]
          exact hX
        have hff := formP_iff.1 hf
        have hro : RunOk X.1 := by
          rw [hX]
          exact runI_ok hff.1.2 hff.2.2 501 _ (startM_inv h8) rfl
        rw [← hXe]
        rintro _ hln m rfl
        refine loop_intro (A := L9 S ls X.1) ((0 : Nat), (S.l, ls)) ?_ ⟨Nat.zero_le _, rfl, hG.inv.l32, hG.inv.m64⟩ ?_
        · simp (maxSteps:=9^9) only [L9_I, acH, go_sem, Nat.reduceBEq, Nat.reduceAdd]
          rfl
        · rintro ⟨i, p⟩ ⟨(hi : i ≤ X.1.sent.length), (hsd : sendO S.o (S.l, ls) (X.1.sent.take i) = some p), (hl32 : p.1.length ≤ 32), (hm64 : p.2.length ≤ 64)⟩
          simp (maxSteps:=9^9) only [L9_I, acH, C24, obH, C35, inH, C26, jH, go_sem, Int.reduceEq, Nat.reduceLeDiff, Nat.reduceSub, Nat.reduceMul, Nat.reduceLT, Nat.reduceBEq, Nat.reduceAdd]
          rintro c rfl
          refine sw_intro (fun hc => ?_) (fun hc => ?_) <;> simp only [decide_eq_true_eq, decide_eq_false_iff_not] at hc
          · have hbad : sendS S.o p (elt SentT X.1.sent i) = none → sendO S.o (S.l, ls) X.1.sent = none := fun h9 => by
              have e := take_cut (t := SentT) hc
              exact (congrArg (sendO S.o (S.l, ls)) e).trans (sendO_none _ _ _ _ _ _ hsd h9)
            have hb : sendS S.o p (elt SentT X.1.sent i) = none → _ := fun h9 => h.room hok f s k xs r hin X hX h0 (hbad h9)
            unfold acH at hb
            refine nd_intro hc ⟨rfl, hG.ok.out.o0, by omega, by omega, fun h9 => hb (if_neg (fun hh => h9 hh.1)), fun _ h9 => hb (if_neg (fun hh => hh.2 h9)), fun h9 h10 sr hsr => ?_⟩
            rintro _ _ m hm
            rw [w64 (by omega)] at hm
            subst hm
            have hnew : sendS S.o p (elt SentT X.1.sent i) = some (p.1 ++ [((elt SentT X.1.sent i).1, S.o, sr, (elt SentT X.1.sent i).2.1, [(elt SentT X.1.sent i).2.2])], updM .str (.int .u64) p.2 (elt SentT X.1.sent i).1 sr) := by
              rw [hsr]
              exact if_pos ⟨h9, h10⟩
            refine lpE_intro (A := L9 S ls X.1) (i + 1, (p.1 ++ [((elt SentT X.1.sent i).1, S.o, sr, (elt SentT X.1.sent i).2.1, [(elt SentT X.1.sent i).2.2])], updM .str (.int .u64) p.2 (elt SentT X.1.sent i).1 sr)) (by simp (maxSteps:=9^9) only [L9_I, acH, go_sem, Nat.reduceBEq, Nat.reduceAdd]; rfl) ⟨hc, ?_, ?_, ?_⟩ ?_
            · show sendO S.o (S.l, ls) (List.take (i + 1) X.1.sent) = _
              have e := take_elt (t := SentT) hc
              rw [← e, sendO_snoc, hsd]
              exact hnew
            · simp only [List.length_append, List.length_cons, List.length_nil]
              omega
            · by_cases hq : lookM .str (.int .u64) p.2 (elt SentT X.1.sent i).1 = none
              · show (updM .str (.int .u64) p.2 (elt SentT X.1.sent i).1 sr).length ≤ 64
                rw [updM_length_new (vt := .int .u64) hq]
                have : ¬ 64 ≤ p.2.length := fun h11 => h10 (.inr ⟨hq, h11⟩)
                omega
              · show (updM .str (.int .u64) p.2 (elt SentT X.1.sent i).1 sr).length ≤ 64
                rw [updM_length_old (vt := .int .u64) hq]
                exact hm64
            · show X.1.sent.length - (i + 1) < X.1.sent.length - i
              omega
          · rw [List.take_of_length_le (by omega)] at hsd
            have hb := h.done hok f s k xs r hin X hX h0 p hsd
            unfold doneH at hb
            refine ⟨by have := hG.in8; omega, fun h9 => ?_, fun f' s' k' xs' r' h9 => ?_⟩
            · rw [hin] at h9
              cases h9
            · rw [hin] at h9
              cases h9
              refine ⟨hG.b8, hG.ev, hG.e16, by have := hro.e5; omega, fun h10 => ?_, fun _ => hb⟩
              rw [hro.ev] at h10
              cases h10
      · simp (maxSteps:=9^9) only [resE, go_sem, Nat.reduceLeDiff, Nat.reduceSub, Nat.reduceMul, Nat.reduceBEq, Nat.reduceAdd]
        rintro c rfl
        refine sw_intro (fun hc => ?_) (fun hc => ?_) <;> simp only [Bool.not_eq_true', Bool.not_eq_false', decide_eq_true_eq, decide_eq_false_iff_not] at hc
        case refine_2 => exact (h1 hc).elim
        have hsd := hs
        simp only [sndS, Bool.and_eq_true, decide_eq_true_eq] at hsd
        refine c60_ok (S := S) ⟨hsd.1, hsd.2.1⟩ (by rw [hin]; exact List.cons_ne_nil _ _) (by have := hG.in8; omega) hsd.2.2.2.1 (fun k1 => ?_) (fun k1 k2 => ?_) (fun k1 k2 x r' hx => ?_)
        · have hb := h.again hok f s k xs r hin X hX h1 k1
          unfold acH at hb
          simp (maxSteps:=9^9) only [acH, go_sem, Nat.reduceLeDiff, Nat.reduceSub, Nat.reduceLT, Nat.reduceBEq, Nat.reduceAdd]
          exact hb
        · have hb := h.full hok f s k xs r hin X hX h1 k1 k2
          unfold acH out0 at hb
          simp (maxSteps:=9^9) only [acH, out0, go_sem, Nat.reduceLeDiff, Nat.reduceSub, Nat.reduceLT, Nat.reduceBEq, Nat.reduceAdd]
          exact hb
        · rw [hin] at hx
          cases hx
          have hb := h.poison hok f s k xs r hin X hX h1 k1 k2
          unfold acG at hb
          simp (maxSteps:=9^9) only [acG, go_sem, Nat.reduceLeDiff, Nat.reduceSub, Nat.reduceLT, Nat.reduceBEq, Nat.reduceAdd]
          exact hb
      · simp (maxSteps:=9^9) only [resV, go_sem, Nat.reduceLeDiff, Nat.reduceSub, Nat.reduceMul, Nat.reduceBEq, Nat.reduceAdd]
        refine c44_ok (S := S) hG.ok.out (fun hrg => ?_)
        simp (maxSteps:=9^9) only [obH, go_sem, Nat.reduceSub, Nat.reduceLT, Nat.reduceBEq, Nat.reduceAdd]
        refine ⟨rfl, c61_ok (hr1 _ rfl hrg) ?_⟩
        simp (maxSteps:=9^9) only [obH, go_sem, Nat.reduceLeDiff, Nat.reduceSub, Nat.reduceMul, Nat.reduceLT, Nat.reduceBEq, Nat.reduceAdd]
        have hXe : X = runX S names code now := by
          unfold runX
          rw [hin]
          exact hX
        have hff := formP_iff.1 hf
        have hro : RunOk X.1 := by
          rw [hX]
          exact runI_ok hff.1.2 hff.2.2 501 _ (startM_inv h8) rfl
        rw [← hXe]
        rintro _ hln m rfl
        refine loop_intro (A := L9 S ls X.1) ((0 : Nat), (S.l, ls)) ?_ ⟨Nat.zero_le _, rfl, hG.inv.l32, hG.inv.m64⟩ ?_
        · simp (maxSteps:=9^9) only [L9_I, acH, go_sem, Nat.reduceBEq, Nat.reduceAdd]
          rfl
        · rintro ⟨i, p⟩ ⟨(hi : i ≤ X.1.sent.length), (hsd : sendO S.o (S.l, ls) (X.1.sent.take i) = some p), (hl32 : p.1.length ≤ 32), (hm64 : p.2.length ≤ 64)⟩
          simp (maxSteps:=9^9) only [L9_I, acH, C24, obH, C35, inH, C26, jH, go_sem, Int.reduceEq, Nat.reduceLeDiff, Nat.reduceSub, Nat.reduceMul, Nat.reduceLT, Nat.reduceBEq, Nat.reduceAdd]
          rintro c rfl
          refine sw_intro (fun hc => ?_) (fun hc => ?_) <;> simp only [decide_eq_true_eq, decide_eq_false_iff_not] at hc
          · have hbad : sendS S.o p (elt SentT X.1.sent i) = none → sendO S.o (S.l, ls) X.1.sent = none := fun h9 => by
              have e := take_cut (t := SentT) hc
              exact (congrArg (sendO S.o (S.l, ls)) e).trans (sendO_none _ _ _ _ _ _ hsd h9)
            have hb : sendS S.o p (elt SentT X.1.sent i) = none → _ := fun h9 => h.room hok f s k xs r hin X hX h0 (hbad h9)
            unfold acH at hb
            refine nd_intro hc ⟨rfl, hG.ok.out.o0, by omega, by omega, fun h9 => hb (if_neg (fun hh => h9 hh.1)), fun _ h9 => hb (if_neg (fun hh => hh.2 h9)), fun h9 h10 sr hsr => ?_⟩
            rintro _ _ m hm
            rw [w64 (by omega)] at hm
            subst hm
            have hnew : sendS S.o p (elt SentT X.1.sent i) = some (p.1 ++ [((elt SentT X.1.sent i).1, S.o, sr, (elt SentT X.1.sent i).2.1, [(elt SentT X.1.sent i).2.2])], updM .str (.int .u64) p.2 (elt SentT X.1.sent i).1 sr) := by
              rw [hsr]
              exact if_pos ⟨h9, h10⟩
            refine lpE_intro (A := L9 S ls X.1) (i + 1, (p.1 ++ [((elt SentT X.1.sent i).1, S.o, sr, (elt SentT X.1.sent i).2.1, [(elt SentT X.1.sent i).2.2])], updM .str (.int .u64) p.2 (elt SentT X.1.sent i).1 sr)) (by simp (maxSteps:=9^9) only [L9_I, acH, go_sem, Nat.reduceBEq, Nat.reduceAdd]; rfl) ⟨hc, ?_, ?_, ?_⟩ ?_
            · show sendO S.o (S.l, ls) (List.take (i + 1) X.1.sent) = _
              have e := take_elt (t := SentT) hc
              rw [← e, sendO_snoc, hsd]
              exact hnew
            · simp only [List.length_append, List.length_cons, List.length_nil]
              omega
            · by_cases hq : lookM .str (.int .u64) p.2 (elt SentT X.1.sent i).1 = none
              · show (updM .str (.int .u64) p.2 (elt SentT X.1.sent i).1 sr).length ≤ 64
                rw [updM_length_new (vt := .int .u64) hq]
                have : ¬ 64 ≤ p.2.length := fun h11 => h10 (.inr ⟨hq, h11⟩)
                omega
              · show (updM .str (.int .u64) p.2 (elt SentT X.1.sent i).1 sr).length ≤ 64
                rw [updM_length_old (vt := .int .u64) hq]
                exact hm64
            · show X.1.sent.length - (i + 1) < X.1.sent.length - i
              omega
          · rw [List.take_of_length_le (by omega)] at hsd
            have hb := h.done hok f s k xs r hin X hX h0 p hsd
            unfold doneH at hb
            refine ⟨by have := hG.in8; omega, fun h9 => ?_, fun f' s' k' xs' r' h9 => ?_⟩
            · rw [hin] at h9
              cases h9
            · rw [hin] at h9
              cases h9
              refine ⟨hG.b8, hG.ev, hG.e16, by have := hro.e5; omega, fun h10 => ?_, fun _ => hb⟩
              rw [hro.ev] at h10
              cases h10
      · simp (maxSteps:=9^9) only [resE, go_sem, Nat.reduceLeDiff, Nat.reduceSub, Nat.reduceMul, Nat.reduceBEq, Nat.reduceAdd]
        rintro c rfl
        refine sw_intro (fun hc => ?_) (fun hc => ?_) <;> simp only [Bool.not_eq_true', Bool.not_eq_false', decide_eq_true_eq, decide_eq_false_iff_not] at hc
        case refine_2 => exact (h1 hc).elim
        have hsd := hs
        simp only [sndS, Bool.and_eq_true, decide_eq_true_eq] at hsd
        refine c60_ok (S := S) ⟨hsd.1, hsd.2.1⟩ (by rw [hin]; exact List.cons_ne_nil _ _) (by have := hG.in8; omega) hsd.2.2.2.1 (fun k1 => ?_) (fun k1 k2 => ?_) (fun k1 k2 x r' hx => ?_)
        · have hb := h.again hok f s k xs r hin X hX h1 k1
          unfold acH at hb
          simp (maxSteps:=9^9) only [acH, go_sem, Nat.reduceLeDiff, Nat.reduceSub, Nat.reduceLT, Nat.reduceBEq, Nat.reduceAdd]
          exact hb
        · have hb := h.full hok f s k xs r hin X hX h1 k1 k2
          unfold acH out0 at hb
          simp (maxSteps:=9^9) only [acH, out0, go_sem, Nat.reduceLeDiff, Nat.reduceSub, Nat.reduceLT, Nat.reduceBEq, Nat.reduceAdd]
          exact hb
        · rw [hin] at hx
          cases hx
          have hb := h.poison hok f s k xs r hin X hX h1 k1 k2
          unfold acG at hb
          simp (maxSteps:=9^9) only [acG, go_sem, Nat.reduceLeDiff, Nat.reduceSub, Nat.reduceLT, Nat.reduceBEq, Nat.reduceAdd]
          exact hb
      · simp (maxSteps:=9^9) only [resV, go_sem, Nat.reduceLeDiff, Nat.reduceSub, Nat.reduceMul, Nat.reduceBEq, Nat.reduceAdd]
        refine c44_ok (S := S) hG.ok.out (fun hrg => ?_)
        simp (maxSteps:=9^9) only [obH, go_sem, Nat.reduceSub, Nat.reduceLT, Nat.reduceBEq, Nat.reduceAdd]
        refine ⟨rfl, c61_ok (hr1 _ rfl hrg) ?_⟩
        simp (maxSteps:=9^9) only [obH, go_sem, Nat.reduceLeDiff, Nat.reduceSub, Nat.reduceMul, Nat.reduceLT, Nat.reduceBEq, Nat.reduceAdd]
        have hXe : X = runX S names code now := by
          unfold runX
          rw [hin]
          exact hX
        have hff := formP_iff.1 hf
        have hro : RunOk X.1 := by
          rw [hX]
          exact runI_ok hff.1.2 hff.2.2 501 _ (startM_inv h8) rfl
        rw [← hXe]
        rintro _ hln m rfl
        refine loop_intro (A := L9 S ls X.1) ((0 : Nat), (S.l, ls)) ?_ ⟨Nat.zero_le _, rfl, hG.inv.l32, hG.inv.m64⟩ ?_
        · simp (maxSteps:=9^9) only [L9_I, acH, go_sem, Nat.reduceBEq, Nat.reduceAdd]
          rfl
        · rintro ⟨i, p⟩ ⟨(hi : i ≤ X.1.sent.length), (hsd : sendO S.o (S.l, ls) (X.1.sent.take i) = some p), (hl32 : p.1.length ≤ 32), (hm64 : p.2.length ≤ 64)⟩
          simp (maxSteps:=9^9) only [L9_I, acH, C24, obH, C35, inH, C26, jH, go_sem, Int.reduceEq, Nat.reduceLeDiff, Nat.reduceSub, Nat.reduceMul, Nat.reduceLT, Nat.reduceBEq, Nat.reduceAdd]
          rintro c rfl
          refine sw_intro (fun hc => ?_) (fun hc => ?_) <;> simp only [decide_eq_true_eq, decide_eq_false_iff_not] at hc
          · have hbad : sendS S.o p (elt SentT X.1.sent i) = none → sendO S.o (S.l, ls) X.1.sent = none := fun h9 => by
              have e := take_cut (t := SentT) hc
              exact (congrArg (sendO S.o (S.l, ls)) e).trans (sendO_none _ _ _ _ _ _ hsd h9)
            have hb : sendS S.o p (elt SentT X.1.sent i) = none → _ := fun h9 => h.room hok f s k xs r hin X hX h0 (hbad h9)
            unfold acH at hb
            refine nd_intro hc ⟨rfl, hG.ok.out.o0, by omega, by omega, fun h9 => hb (if_neg (fun hh => h9 hh.1)), fun _ h9 => hb (if_neg (fun hh => hh.2 h9)), fun h9 h10 sr hsr => ?_⟩
            rintro _ _ m hm
            rw [w64 (by omega)] at hm
            subst hm
            have hnew : sendS S.o p (elt SentT X.1.sent i) = some (p.1 ++ [((elt SentT X.1.sent i).1, S.o, sr, (elt SentT X.1.sent i).2.1, [(elt SentT X.1.sent i).2.2])], updM .str (.int .u64) p.2 (elt SentT X.1.sent i).1 sr) := by
              rw [hsr]
              exact if_pos ⟨h9, h10⟩
            refine lpE_intro (A := L9 S ls X.1) (i + 1, (p.1 ++ [((elt SentT X.1.sent i).1, S.o, sr, (elt SentT X.1.sent i).2.1, [(elt SentT X.1.sent i).2.2])], updM .str (.int .u64) p.2 (elt SentT X.1.sent i).1 sr)) (by simp (maxSteps:=9^9) only [L9_I, acH, go_sem, Nat.reduceBEq, Nat.reduceAdd]; rfl) ⟨hc, ?_, ?_, ?_⟩ ?_
            · show sendO S.o (S.l, ls) (List.take (i + 1) X.1.sent) = _
              have e := take_elt (t := SentT) hc
              rw [← e, sendO_snoc, hsd]
              exact hnew
            · simp only [List.length_append, List.length_cons, List.length_nil]
              omega
            · by_cases hq : lookM .str (.int .u64) p.2 (elt SentT X.1.sent i).1 = none
              · show (updM .str (.int .u64) p.2 (elt SentT X.1.sent i).1 sr).length ≤ 64
                rw [updM_length_new (vt := .int .u64) hq]
                have : ¬ 64 ≤ p.2.length := fun h11 => h10 (.inr ⟨hq, h11⟩)
                omega
              · show (updM .str (.int .u64) p.2 (elt SentT X.1.sent i).1 sr).length ≤ 64
                rw [updM_length_old (vt := .int .u64) hq]
                exact hm64
            · show X.1.sent.length - (i + 1) < X.1.sent.length - i
              omega
          · rw [List.take_of_length_le (by omega)] at hsd
            have hb := h.done hok f s k xs r hin X hX h0 p hsd
            unfold doneH at hb
            refine ⟨by have := hG.in8; omega, fun h9 => ?_, fun f' s' k' xs' r' h9 => ?_⟩
            · rw [hin] at h9
              cases h9
            · rw [hin] at h9
              cases h9
              refine ⟨hG.b8, hG.ev, hG.e16, by have := hro.e5; omega, fun h10 => ?_, fun _ => hb⟩
              rw [hro.ev] at h10
              cases h10
      · simp (maxSteps:=9^9) only [resE, go_sem, Nat.reduceLeDiff, Nat.reduceSub, Nat.reduceMul, Nat.reduceBEq, Nat.reduceAdd]
        rintro c rfl
        refine sw_intro (fun hc => ?_) (fun hc => ?_) <;> simp only [Bool.not_eq_true', Bool.not_eq_false', decide_eq_true_eq, decide_eq_false_iff_not] at hc
        case refine_2 => exact (h1 hc).elim
        have hsd := hs
        simp only [sndS, Bool.and_eq_true, decide_eq_true_eq] at hsd
        refine c60_ok (S := S) ⟨hsd.1, hsd.2.1⟩ (by rw [hin]; exact List.cons_ne_nil _ _) (by have := hG.in8; omega) hsd.2.2.2.1 (fun k1 => ?_) (fun k1 k2 => ?_) (fun k1 k2 x r' hx => ?_)
        · have hb := h.again hok f s k xs r hin X hX h1 k1
          unfold acH at hb
          simp (maxSteps:=9^9) only [acH, go_sem, Nat.reduceLeDiff, Nat.reduceSub, Nat.reduceLT, Nat.reduceBEq, Nat.reduceAdd]
          exact hb
        · have hb := h.full hok f s k xs r hin X hX h1 k1 k2
          unfold acH out0 at hb
          simp (maxSteps:=9^9) only [acH, out0, go_sem, Nat.reduceLeDiff, Nat.reduceSub, Nat.reduceLT, Nat.reduceBEq, Nat.reduceAdd]
          exact hb
        · rw [hin] at hx
          cases hx
          have hb := h.poison hok f s k xs r hin X hX h1 k1 k2
          unfold acG at hb
          simp (maxSteps:=9^9) only [acG, go_sem, Nat.reduceLeDiff, Nat.reduceSub, Nat.reduceLT, Nat.reduceBEq, Nat.reduceAdd]
          exact hb
    · refine ⟨by simp, [], ?_⟩
      match n with
      | 0 =>
        unfold lackH at h ⊢
        simp (maxSteps:=9^9) only [a9, r9, go_sem, Nat.reduceBEq, Nat.reduceAdd]
        refine c13_lack (n := 0) (S := S) ?_
        simp (maxSteps:=9^9) only [lackH, go_sem, Int.reduceEq, Nat.reduceLeDiff, Nat.reduceSub, Nat.reduceLT, Nat.reduceBEq, Nat.reduceAdd]
        exact h
      | 1 =>
        unfold lackH at h ⊢
        simp (maxSteps:=9^9) only [a9, r9, go_sem, Nat.reduceBEq, Nat.reduceAdd]
        refine c13_lack (n := 1) (S := S) ?_
        simp (maxSteps:=9^9) only [lackH, go_sem, Int.reduceEq, Nat.reduceLeDiff, Nat.reduceSub, Nat.reduceLT, Nat.reduceBEq, Nat.reduceAdd]
        exact h
      | 2 =>
        unfold lackH at h ⊢
        simp (maxSteps:=9^9) only [a9, r9, go_sem, Nat.reduceBEq, Nat.reduceAdd]
        refine c13_lack (n := 2) (S := S) ?_
        simp (maxSteps:=9^9) only [lackH, go_sem, Int.reduceEq, Nat.reduceLeDiff, Nat.reduceSub, Nat.reduceLT, Nat.reduceBEq, Nat.reduceAdd]
        exact h
      | n + 3 =>
        unfold lackH at h ⊢
        simp (maxSteps:=9^9) only [a9, r9, go_sem, Nat.reduceBEq, Nat.reduceAdd]
        refine c13_lack (n := 3) (S := S) ?_
        simp (maxSteps:=9^9) only [lackH, go_sem, Int.reduceEq, Nat.reduceLeDiff, Nat.reduceSub, Nat.reduceLT, Nat.reduceBEq, Nat.reduceAdd]
        exact h
  · exact h.elim
end Go.V
