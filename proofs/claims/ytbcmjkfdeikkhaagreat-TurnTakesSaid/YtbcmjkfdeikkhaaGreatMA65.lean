/- A part of the proof layer, or functions of the given program in it: contracts and their proofs. -/
import Derived.Test.YtbcmjkfdeikkhaaGreatMA61
import Derived.Test.YtbcmjkfdeikkhaaGreatMA43
import Derived.Test.YtbcmjkfdeikkhaaGreatMA40
namespace Go.V
open Go.Proofs
set_option maxRecDepth 100000
set_option maxHeartbeats 8000000
set_option linter.unusedSimpArgs false
set_option linter.unnecessarySimpa false
set_option linter.unusedVariables false
/-! ### a run -/
def onT (t : Ty) (eb : Nat) (x : SV) (k : List t.den → Prop) : Prop := (x = .nils ∧ k []) ∨ ∃ xs, x = .sl true eb t xs ∧ k xs
@[go_sem] theorem onT_nils {t eb k} : onT t eb .nils k = k [] := by
 apply propext; constructor
 ·rintro (⟨_, h⟩ | ⟨_, h, _⟩)
  ·exact h
  ·cases h
 ·exact fun h => .inl ⟨rfl, h⟩
@[go_sem] theorem onT_sl {t eb xs k} : onT t eb (.sl true eb t xs) k = k xs := by
 apply propext; constructor
 ·rintro (⟨h, _⟩ | ⟨_, h, hk⟩)
  ·cases h
  ·cases h
   exact hk
 ·exact fun h => .inr ⟨_, rfl, h⟩
def z8 : List Int := List.replicate 8 0
def startM (names : List ByteArray) (code : List EvT.den) (f : ByteArray) (s k : Int) (args : List Int) (now : Int) (st : List Int) : Mc := ⟨names, code, f, s, k, args, now, 0, [], st, [], [], [], 0, 0, false⟩
def iterM (M : Mc) (i : EvT.den) : Mc := stepN { M with steps := M.steps + 1, pc := M.pc + 1 } i.1.toNat i.2
def runI : Nat → Mc → Mc × Int
 | 0, M => (M, 0)
 | n + 1, M =>
  if M.done = true ∨ ¬ (M.pc < (M.code.length : Int)) then (M, 0)
  else if M.steps = 500 then (M, 11)
  else if (iterM M (elt EvT M.code M.pc.toNat)).failed ≠ 0 then (iterM M (elt EvT M.code M.pc.toNat), (iterM M (elt EvT M.code M.pc.toNat)).failed)
  else runI n (iterM M (elt EvT M.code M.pc.toNat))
def resV (M : Mc) : SV := .agg [.arr 8 (.int .i64) M.st, .sl true 16 EvT M.ev, .sl true 32 SentT M.sent, .sl true 48 TimT M.tim, .int .i64 M.steps]
def resE (n : Int) : SV := .agg [.arr 8 (.int .i64) z8, .nils, .nils, .nils, .int .i64 n]
structure InvM (names : List ByteArray) (code : List EvT.den) (args : List Int) (M : Mc) : Prop where
 names : M.names = names
 code : M.code = code
 args : M.args = args
 steps : 0 ≤ M.steps ∧ M.steps ≤ 500
 pc : 0 ≤ M.pc ∧ M.pc ≤ 200
 stack : M.stack.length ≤ 16
 st8 : M.st.length = 8
 ev : (M.ev.length : Int) ≤ M.steps
 sent : (M.sent.length : Int) ≤ M.steps
 tim : (M.tim.length : Int) ≤ M.steps
 ok : M.failed = 0
theorem runI_end {n : Nat} {M : Mc} (h : M.done = true ∨ ¬ (M.pc < (M.code.length : Int))) : runI (n + 1) M = (M, 0) := by
 rw [runI, if_pos h]
theorem runI_budget {n : Nat} {M : Mc} (h : ¬ (M.done = true ∨ ¬ (M.pc < (M.code.length : Int)))) (h5 : M.steps = 500) : runI (n + 1) M = (M, 11) := by
 rw [runI, if_neg h, if_pos h5]
theorem runI_fail {n : Nat} {M : Mc} (h : ¬ (M.done = true ∨ ¬ (M.pc < (M.code.length : Int)))) (h5 : ¬ M.steps = 500) (hf : (iterM M (elt EvT M.code M.pc.toNat)).failed ≠ 0) : runI (n + 1) M = (iterM M (elt EvT M.code M.pc.toNat), (iterM M (elt EvT M.code M.pc.toNat)).failed) := by
 rw [runI, if_neg h, if_neg h5, if_pos hf]
theorem runI_next {n : Nat} {M : Mc} (h : ¬ (M.done = true ∨ ¬ (M.pc < (M.code.length : Int)))) (h5 : ¬ M.steps = 500) (hf : ¬ (iterM M (elt EvT M.code M.pc.toNat)).failed ≠ 0) : runI (n + 1) M = runI n (iterM M (elt EvT M.code M.pc.toNat)) := by
 rw [runI, if_neg h, if_neg h5, if_neg hf]
theorem toNat_is {a : Int} {n : Nat} (h0 : 0 ≤ a) (h : a.toNat = n) : a = n := by omega
theorem opK_two {n : Int} (h : 0 ≤ n ∧ n < 24) : ((n = 2 ∨ n = 3) → opK n = 2) ∧ (n = 4 → opK n = 3) ∧ (n = 15 ∨ n = 16 → opK n = 4) ∧ (n = 17 ∨ n = 19 ∨ n = 20 → opK n = 5) := by
 refine ⟨?_, ?_, ?_, ?_⟩
 ·rintro (rfl | rfl) <;> rfl
 ·rintro rfl
  rfl
 ·rintro (rfl | rfl) <;> rfl
 ·rintro (rfl | rfl | rfl) <;> rfl
theorem insOk_arg {n c : Nat} {op arg : Int} (h : insOk n c (op, arg) = true) : (0 ≤ op ∧ op < 24) ∧ ((op = 2 ∨ op = 3) → 0 ≤ arg ∧ arg < 8) ∧ (op = 4 → 0 ≤ arg ∧ arg < 4) ∧ (op = 15 ∨ op = 16 → 0 ≤ arg ∧ arg < c + 1) ∧ (op = 17 ∨ op = 19 ∨ op = 20 → 0 ≤ arg ∧ arg < n) := by
 simp only [insOk, Bool.and_eq_true, Bool.or_eq_true, decide_eq_true_eq] at h
 obtain ⟨h1, h2⟩ := h
 obtain ⟨a, b, d, e⟩ := opK_two h1
 refine ⟨h1, fun hh => ?_, fun hh => ?_, fun hh => ?_, fun hh => ?_⟩
 ·rw [a hh] at h2
  simpa [belowI] using h2
 ·rw [b hh] at h2
  simpa [belowI] using h2
 ·rw [d hh] at h2
  simpa [belowI] using h2
 ·rw [e hh] at h2
  simpa [belowI] using h2
theorem InvM.next {names code args M} (h : InvM names code args M) (hc : code.length ≤ 200) (hi : code.all (insOk names.length code.length) = true) (hp : M.pc < (code.length : Int)) (h5 : ¬ M.steps = 500) (hf : ¬ (iterM M (elt EvT code M.pc.toNat)).failed ≠ 0) : InvM names code args (iterM M (elt EvT code M.pc.toNat)) := by
 have hs := h.steps
 have hpc := h.pc
 have hlt : M.pc.toNat < code.length := by omega
 have ho := insOk_arg (List.all_eq_true.1 hi _ (List.mem_of_getElem? (elt_get hlt)))
 have k := stepN_k { M with steps := M.steps + 1, pc := M.pc + 1 } (elt EvT code M.pc.toNat).1.toNat (elt EvT code M.pc.toNat).2
 have he := h.ev
 have hse := h.sent
 have ht := h.tim
 have k1 : (iterM M (elt EvT code M.pc.toNat)).ev.length ≤ M.ev.length + 1 := k.ev
 have k2 : (iterM M (elt EvT code M.pc.toNat)).sent.length ≤ M.sent.length + 1 := k.sent
 have k3 : (iterM M (elt EvT code M.pc.toNat)).tim.length ≤ M.tim.length + 1 := k.tim
 have k4 : (iterM M (elt EvT code M.pc.toNat)).steps = M.steps + 1 := k.steps
 refine ⟨k.names.trans h.names, k.code.trans h.code, k.args.trans h.args, ⟨by omega, by omega⟩, ?_, k.stack h.stack, k.st.trans h.st8, by omega, by omega, by omega, Decidable.not_not.1 hf⟩
 rcases k.pc with e | ⟨e, en⟩
 ·have e : (iterM M (elt EvT code M.pc.toNat)).pc = M.pc + 1 := e
  omega
 ·have e : (iterM M (elt EvT code M.pc.toNat)).pc = (elt EvT code M.pc.toNat).2 := e
  obtain ⟨h1, _, _, h4, _⟩ := ho
  have en' : (elt EvT code M.pc.toNat).1 = 15 ∨ (elt EvT code M.pc.toNat).1 = 16 := by
   have h1a : (0 : Int) ≤ (elt EvT code M.pc.toNat).1 := h1.1
   rcases en with en | en
   ·left; exact (Int.toNat_of_nonneg h1a).symm.trans (by rw [en]; rfl)
   ·right; exact (Int.toNat_of_nonneg h1a).symm.trans (by rw [en]; rfl)
  have h4 := h4 en'
  rw [e]
  constructor
  ·exact h4.1
  ·exact Int.le_trans (Int.le_of_lt_add_one h4.2) (by omega)
def C31 : Contract := fun args hp K => match args, hp with
 | [.agg [x, .sl true 16 (.pair (.int .i64) (.int .i64)) code], .agg [.arr 8 (.int .i64) st], .agg [.str f, .int .u64 s, .int .i64 k, .sl true 8 (.int .i64) xs], .int .i64 now], [] => onT .str 16 x fun names => (st : List Int).length = 8 ∧
   (¬ (formP names code = true ∧ f.size ≤ 40 ∧ (xs : List Int).length ≤ 4 ∧ 0 ≤ now) → K (.tup [resE 0, .int .i64 1]) []) ∧
   ((formP names code = true ∧ f.size ≤ 40 ∧ (xs : List Int).length ≤ 4 ∧ 0 ≤ now) → ∀ X, X = runI 501 (startM names code f s k xs now st) → (X.2 = 0 → K (.tup [resV X.1, .int .i64 0]) []) ∧ (X.2 ≠ 0 → K (.tup [resE X.1.steps, .int .i64 X.2]) []))
 | _, _ => False
def mcA (x : SV) (code : List EvT.den) (M : Mc) : SS := ⟨[(4, .ptr 0 0), (8, .ptr 1 0), (10, .ptr 2 0)], [.struct [x, .sl true 16 EvT code], .struct [.arr 8 (.int .i64) z8, .nils, .nils, .nils, .int .i64 0],
 .struct [.sl true 16 .str M.names, .sl true 16 EvT M.code, .str M.f, .int .u64 M.s, .int .i64 M.k, .sl true 8 (.int .i64) M.args, .int .i64 M.now, .int .i64 M.pc, .own 3, .arr 8 (.int .i64) M.st, .own 4, .own 5, .own 6, .int .i64 M.steps, .int .i64 M.failed, .bool M.done],
 .row true 8 (.int .i64) M.stack, .row true 16 EvT M.ev, .row true 32 SentT M.sent, .row true 48 TimT M.tim]⟩
def L31 (x : SV) (names : List ByteArray) (code : List EvT.den) (args : List Int) (X : Mc × Int) : LoopAnn := { G := Mc, I := mcA x code, R := fun _ M => InvM names code args M ∧ runI (501 - M.steps.toNat) M = X, μ := fun M => 501 - M.steps.toNat }
theorem L31_I {x names code args X} (M : Mc) : (L31 x names code args X).I M = ⟨[(4, .ptr 0 0), (8, .ptr 1 0), (10, .ptr 2 0)], [.struct [x, .sl true 16 EvT code], .struct [.arr 8 (.int .i64) z8, .nils, .nils, .nils, .int .i64 0],
 .struct [.sl true 16 .str M.names, .sl true 16 EvT M.code, .str M.f, .int .u64 M.s, .int .i64 M.k, .sl true 8 (.int .i64) M.args, .int .i64 M.now, .int .i64 M.pc, .own 3, .arr 8 (.int .i64) M.st, .own 4, .own 5, .own 6, .int .i64 M.steps, .int .i64 M.failed, .bool M.done],
 .row true 8 (.int .i64) M.stack, .row true 16 EvT M.ev, .row true 32 SentT M.sent, .row true 48 TimT M.tim]⟩ := rfl
theorem s31 : Sound Tryz.prog 31 C31 := by
 refine sound_of_okF ok31 (.cons s29 (callable_of_okF ok29) (.cons s74 (callable_of_okF ok74) (.cons s91 (callable_of_okF ok91) .nil))) ?_
 intro args hp K h
 unfold C31 at h
 split at h
 ·rename_i x code st f s k xs now
  have hmx := maxLen_val
  rcases h with ⟨rfl, h8, hb, h⟩ | ⟨names, rfl, h8, hb, h⟩
  ·refine ⟨by simp, [(1, L31 .nils [] code xs (runI 501 (startM [] code f s k xs now st)))], ?_⟩
   simp (maxSteps:=9^9) only [a31, r31, C29, C74, go_sem, Nat.reduceLeDiff, Nat.reduceSub, Nat.reduceMul, Nat.reduceBEq, Nat.reduceAdd]
   refine sw_intro (fun hf => ?_) (fun hf => hb (fun hh => by rw [hf] at hh; exact absurd hh.1 (by simp)))
   refine sw_intro (fun hl => ?_) (fun hl => hb (fun hh => by simp [hh.2.1, hh.2.2.1] at hl))
   simp only [Bool.and_eq_true, decide_eq_true_eq] at hl
   rintro c rfl
   refine sw_intro (fun hn => ?_) (fun hn => ?_) <;> simp only [decide_eq_true_eq, decide_eq_false_iff_not] at hn
   ·exact hb (fun hh => absurd hh.2.2.2 (by omega))
   have h := h ⟨hf, hl.1, hl.2, by omega⟩
   generalize hX : runI 501 (startM [] code f s k xs now st) = X at *
   have h := h X rfl
   refine loop_intro (A := L31 .nils [] code xs X) (startM [] code f s k xs now st) ?_ ⟨⟨rfl, rfl, rfl, ⟨Int.le_refl 0, by show (0 : Int) ≤ 500; omega⟩, ⟨Int.le_refl 0, by show (0 : Int) ≤ 200; omega⟩, by show 0 ≤ 16; omega, h8, by show ((0 : Nat) : Int) ≤ 0; omega, by show ((0 : Nat) : Int) ≤ 0; omega, by show ((0 : Nat) : Int) ≤ 0; omega, rfl⟩, hX⟩ ?_
   ·simp (maxSteps:=9^9) only [L31_I, go_sem, Nat.reduceBEq, Nat.reduceAdd]
    rfl
   ·rintro (M : Mc) ⟨(hM : InvM [] code xs M), (hR : runI (501 - M.steps.toNat) M = X)⟩
    simp (maxSteps:=9^9) only [L31_I, C91, mcH, go_sem, Nat.reduceLeDiff, Nat.reduceSub, Nat.reduceMul, Nat.reduceLT, Nat.reduceBEq, Nat.reduceAdd]
    have hlen : ([] : List ByteArray).length ≤ 8 ∧ code.length ≤ 200 := (formP_iff.1 hf).1
    have hins : code.all (insOk ([] : List ByteArray).length code.length) = true := (formP_iff.1 hf).2.2
    have hs := hM.steps
    have hpc := hM.pc
    have hcd := hM.code
    have eN : 501 - M.steps.toNat = (500 - M.steps.toNat) + 1 := by omega
    rw [eN] at hR
    refine sw_intro (fun hd => ?_) (fun hd => ?_)
    ·rw [runI_end (.inl hd)] at hR
     subst hR
     exact h.1 rfl
    rintro _ _ m rfl c rfl
    refine sw_intro (fun hl => ?_) (fun hl => ?_) <;> simp only [decide_eq_true_eq, decide_eq_false_iff_not] at hl
    case refine_2 =>
     rw [runI_end (.inr (by rw [hcd]; exact hl))] at hR
     subst hR
     exact h.1 rfl
    have hgo : ¬ (M.done = true ∨ ¬ (M.pc < (M.code.length : Int))) := by
     rintro (hh | hh)
     ·rw [hd] at hh
      cases hh
     ·exact hh (by rw [hcd]; exact hl)
    rintro c rfl
    refine sw_intro (fun h5 => ?_) (fun h5 => ?_) <;> simp only [decide_eq_true_eq, decide_eq_false_iff_not] at h5
    ·rw [runI_budget hgo h5] at hR
     subst hR
     have h6 := h.2 (by show (11 : Int) ≠ 0; omega)
     rw [show ((M, (11 : Int)).1).steps = 500 from h5] at h6
     exact h6
    rintro _ _ m hm
    rw [w64 (by omega)] at hm
    subst hm
    have hlt : M.pc.toNat < code.length := by omega
    refine nd_intro ⟨hpc.1, hl⟩ (nd_intro hlt ⟨⟨⟨hpc.1, hl⟩, hlt⟩, ?_⟩)
    rintro _ _ m hm
    rw [w64 (by omega)] at hm
    subst hm
    have ho := insOk_arg (List.all_eq_true.1 hins _ (List.mem_of_getElem? (elt_get hlt)))
    have hev := hM.ev
    have hse := hM.sent
    have hti := hM.tim
    have hnx := hM.next hlen.2 hins hl h5
    have hfl := @runI_fail (500 - M.steps.toNat) M hgo h5
    have hnn := @runI_next (500 - M.steps.toNat) M hgo h5
    rw [hcd] at hfl hnn
    rw [hR] at hfl hnn
    have k4 : (iterM M (elt EvT code M.pc.toNat)).steps = M.steps + 1 := (stepN_k { M with steps := M.steps + 1, pc := M.pc + 1 } _ _).steps
    unfold iterM at hnx hfl hnn k4
    generalize stepN { M with steps := M.steps + 1, pc := M.pc + 1 } (Int.toNat (elt EvT code M.pc.toNat).1) (elt EvT code M.pc.toNat).2 = M2 at hnx hfl hnn k4 ⊢
    refine ⟨⟨hM.stack, hM.st8, by show M.ev.length ≤ 1000; omega, by show M.sent.length ≤ 1000; omega, by show M.tim.length ≤ 1000; omega⟩, ⟨ho.1.1, Int.le_of_lt_add_one ho.1.2⟩, ?_, ?_⟩
    ·obtain ⟨⟨ho1, ho2⟩, a1, a2, a3, a4⟩ := ho
     have en : ∀ n : Nat, (elt EvT code M.pc.toNat).1.toNat = n → (elt EvT code M.pc.toNat).1 = (n : Int) := fun n hn => toNat_is ho1 hn
     refine ⟨fun hh => a1 (hh.imp (en 2) (en 3)), fun hh => a2 (en 4 hh), fun hh => ?_⟩
     have h7 := a4 (hh.imp (en 17) (fun h8 => h8.imp (en 19) (en 20)))
     show 0 ≤ (elt EvT code M.pc.toNat).2 ∧ (elt EvT code M.pc.toNat).2 < (M.names.length : Int)
     rw [hM.names]
     exact h7
    ·rintro c rfl
     refine sw_intro (fun hq => ?_) (fun hq => ?_) <;> simp only [Bool.not_eq_true', Bool.not_eq_false', decide_eq_true_eq, decide_eq_false_iff_not] at hq
     ·have hX2 := hfl hq
      rw [hX2] at h
      exact h.2 hq
     ·have hX2 := hnn (fun h9 => h9 hq)
      have hi := hnx (fun h9 => h9 hq)
      refine lpE_intro (A := L31 .nils ([] : List ByteArray) code xs X) M2 (by simp (maxSteps:=9^9) only [L31_I, go_sem, Nat.reduceBEq, Nat.reduceAdd]) ⟨hi, ?_⟩ ?_
      ·rw [k4, hX2]
       congr 1
       omega
      ·show 501 - M2.steps.toNat < 501 - M.steps.toNat
       rw [k4]
       omega
  ·refine ⟨by simp, [(1, L31 (.sl true 16 .str names) names code xs (runI 501 (startM names code f s k xs now st)))], ?_⟩
   simp (maxSteps:=9^9) only [a31, r31, C29, C74, go_sem, Nat.reduceLeDiff, Nat.reduceSub, Nat.reduceMul, Nat.reduceBEq, Nat.reduceAdd]
   refine sw_intro (fun hf => ?_) (fun hf => hb (fun hh => by rw [hf] at hh; exact absurd hh.1 (by simp)))
   refine sw_intro (fun hl => ?_) (fun hl => hb (fun hh => by simp [hh.2.1, hh.2.2.1] at hl))
   simp only [Bool.and_eq_true, decide_eq_true_eq] at hl
   rintro c rfl
   refine sw_intro (fun hn => ?_) (fun hn => ?_) <;> simp only [decide_eq_true_eq, decide_eq_false_iff_not] at hn
   ·exact hb (fun hh => absurd hh.2.2.2 (by omega))
   have h := h ⟨hf, hl.1, hl.2, by omega⟩
   generalize hX : runI 501 (startM names code f s k xs now st) = X at *
   have h := h X rfl
   refine loop_intro (A := L31 (.sl true 16 .str names) names code xs X) (startM names code f s k xs now st) ?_ ⟨⟨rfl, rfl, rfl, ⟨Int.le_refl 0, by show (0 : Int) ≤ 500; omega⟩, ⟨Int.le_refl 0, by show (0 : Int) ≤ 200; omega⟩, by show 0 ≤ 16; omega, h8, by show ((0 : Nat) : Int) ≤ 0; omega, by show ((0 : Nat) : Int) ≤ 0; omega, by show ((0 : Nat) : Int) ≤ 0; omega, rfl⟩, hX⟩ ?_
   ·simp (maxSteps:=9^9) only [L31_I, go_sem, Nat.reduceBEq, Nat.reduceAdd]
    rfl
   ·rintro (M : Mc) ⟨(hM : InvM names code xs M), (hR : runI (501 - M.steps.toNat) M = X)⟩
    simp (maxSteps:=9^9) only [L31_I, C91, mcH, go_sem, Nat.reduceLeDiff, Nat.reduceSub, Nat.reduceMul, Nat.reduceLT, Nat.reduceBEq, Nat.reduceAdd]
    have hlen : names.length ≤ 8 ∧ code.length ≤ 200 := (formP_iff.1 hf).1
    have hins : code.all (insOk names.length code.length) = true := (formP_iff.1 hf).2.2
    have hs := hM.steps
    have hpc := hM.pc
    have hcd := hM.code
    have eN : 501 - M.steps.toNat = (500 - M.steps.toNat) + 1 := by omega
    rw [eN] at hR
    refine sw_intro (fun hd => ?_) (fun hd => ?_)
    ·rw [runI_end (.inl hd)] at hR
     subst hR
     exact h.1 rfl
    rintro _ _ m rfl c rfl
    refine sw_intro (fun hl => ?_) (fun hl => ?_) <;> simp only [decide_eq_true_eq, decide_eq_false_iff_not] at hl
    case refine_2 =>
     rw [runI_end (.inr (by rw [hcd]; exact hl))] at hR
     subst hR
     exact h.1 rfl
    have hgo : ¬ (M.done = true ∨ ¬ (M.pc < (M.code.length : Int))) := by
     rintro (hh | hh)
     ·rw [hd] at hh
      cases hh
     ·exact hh (by rw [hcd]; exact hl)
    rintro c rfl
    refine sw_intro (fun h5 => ?_) (fun h5 => ?_) <;> simp only [decide_eq_true_eq, decide_eq_false_iff_not] at h5
    ·rw [runI_budget hgo h5] at hR
     subst hR
     have h6 := h.2 (by show (11 : Int) ≠ 0; omega)
     rw [show ((M, (11 : Int)).1).steps = 500 from h5] at h6
     exact h6
    rintro _ _ m hm
    rw [w64 (by omega)] at hm
    subst hm
    have hlt : M.pc.toNat < code.length := by omega
    refine nd_intro ⟨hpc.1, hl⟩ (nd_intro hlt ⟨⟨⟨hpc.1, hl⟩, hlt⟩, ?_⟩)
    rintro _ _ m hm
    rw [w64 (by omega)] at hm
    subst hm
    have ho := insOk_arg (List.all_eq_true.1 hins _ (List.mem_of_getElem? (elt_get hlt)))
    have hev := hM.ev
    have hse := hM.sent
    have hti := hM.tim
    have hnx := hM.next hlen.2 hins hl h5
    have hfl := @runI_fail (500 - M.steps.toNat) M hgo h5
    have hnn := @runI_next (500 - M.steps.toNat) M hgo h5
    rw [hcd] at hfl hnn
    rw [hR] at hfl hnn
    have k4 : (iterM M (elt EvT code M.pc.toNat)).steps = M.steps + 1 := (stepN_k { M with steps := M.steps + 1, pc := M.pc + 1 } _ _).steps
    unfold iterM at hnx hfl hnn k4
    generalize stepN { M with steps := M.steps + 1, pc := M.pc + 1 } (Int.toNat (elt EvT code M.pc.toNat).1) (elt EvT code M.pc.toNat).2 = M2 at hnx hfl hnn k4 ⊢
    refine ⟨⟨hM.stack, hM.st8, by show M.ev.length ≤ 1000; omega, by show M.sent.length ≤ 1000; omega, by show M.tim.length ≤ 1000; omega⟩, ⟨ho.1.1, Int.le_of_lt_add_one ho.1.2⟩, ?_, ?_⟩
    ·obtain ⟨⟨ho1, ho2⟩, a1, a2, a3, a4⟩ := ho
     have en : ∀ n : Nat, (elt EvT code M.pc.toNat).1.toNat = n → (elt EvT code M.pc.toNat).1 = (n : Int) := fun n hn => toNat_is ho1 hn
     refine ⟨fun hh => a1 (hh.imp (en 2) (en 3)), fun hh => a2 (en 4 hh), fun hh => ?_⟩
     have h7 := a4 (hh.imp (en 17) (fun h8 => h8.imp (en 19) (en 20)))
     show 0 ≤ (elt EvT code M.pc.toNat).2 ∧ (elt EvT code M.pc.toNat).2 < (M.names.length : Int)
     rw [hM.names]
     exact h7
    ·rintro c rfl
     refine sw_intro (fun hq => ?_) (fun hq => ?_) <;> simp only [Bool.not_eq_true', Bool.not_eq_false', decide_eq_true_eq, decide_eq_false_iff_not] at hq
     ·have hX2 := hfl hq
      rw [hX2] at h
      exact h.2 hq
     ·have hX2 := hnn (fun h9 => h9 hq)
      have hi := hnx (fun h9 => h9 hq)
      refine lpE_intro (A := L31 (.sl true 16 .str names) names code xs X) M2 (by simp (maxSteps:=9^9) only [L31_I, go_sem, Nat.reduceBEq, Nat.reduceAdd]) ⟨hi, ?_⟩ ?_
      ·rw [k4, hX2]
       congr 1
       omega
      ·show 501 - M2.steps.toNat < 501 - M.steps.toNat
       rw [k4]
       omega
 ·exact h.elim
end Go.V
namespace Go.V
open Go.Proofs
set_option maxRecDepth 100000
set_option maxHeartbeats 8000000
set_option linter.unusedSimpArgs false
set_option linter.unnecessarySimpa false
set_option linter.unusedVariables false
def C20 : Contract := fun args hp K => match args with
 | [.ptr 0 0] => onJ hp fun b ev v => b.length = 8 ∧ ev.all okEv = true ∧ ev.length ≤ 1000 ∧ K (.agg [.arr 8 (.int .i64) (appE b ev)]) hp
 | _ => False
def L20 (b : List Int) (ev : List EvT.den) (v : Int) : LoopAnn := cntA (fun i => ⟨[(2, .ptr 2 0), (3, .ptr 3 0), (16, .own 1), (17, .int .i64 ev.length), (18, .int .i64 i)], jH false b ev v ++ [.struct [.arr 8 (.int .i64) z8], .struct [.arr 8 (.int .i64) (appE b (ev.take i))]]⟩) ev.length
theorem s20 : Sound Tryz.prog 20 C20 := by
 refine sound_of_okF ok20 .nil ?_
 intro args hp K h
 unfold C20 at h
 split at h
 ·obtain ⟨b, ev, v, rfl, h8, hk, hl, h⟩ := h
  refine ⟨by simp, [(1, L20 b ev v)], ?_⟩
  have hmx := maxLen_val
  unfold jH at h ⊢
  simp (maxSteps:=9^9) only [a20, r20, go_sem, Nat.reduceSub, Nat.reduceMul, Nat.reduceBEq, Nat.reduceAdd]
  rintro _ _ m rfl
  refine loop_intro (A := L20 b ev v) (0 : Nat) ?_ (Nat.zero_le _) ?_
  ·simp (maxSteps:=9^9) only [L20, cntA_I, jH, go_sem, Nat.reduceBEq, Nat.reduceAdd]
   rfl
  ·intro (i : Nat) (hi : i ≤ ev.length)
   simp (maxSteps:=9^9) only [L20, cntA_I, jH, go_sem, Nat.reduceLeDiff, Nat.reduceSub, Nat.reduceMul, Nat.reduceBEq, Nat.reduceAdd]
   rintro c rfl
   refine sw_intro (fun hc => ?_) (fun hc => ?_) <;> simp only [decide_eq_true_eq, decide_eq_false_iff_not] at hc
   ·have hok : okEv (elt EvT ev i) = true := List.all_eq_true.1 hk _ (List.mem_of_getElem? (elt_get hc))
    simp only [okEv, Bool.and_eq_true, decide_eq_true_eq] at hok
    refine nd_intro hc (nd_intro hok (nd_intro (toNat_lt8 hok) ?_))
    rintro _ _ m hm
    rw [w64 (by omega)] at hm
    subst hm
    rw [← appE_snoc, take_elt (t := EvT) hc]
    exact cntA_next hc (by simp (maxSteps:=9^9) only [go_sem, Nat.reduceBEq, Nat.reduceAdd]; rfl)
   ·rw [List.take_of_length_le (by omega)]
    exact h
 ·exact h.elim
def C30 : Contract := fun args hp K => match args with
 | [.ptr 0 0] => onIn hp fun l => l.length ≤ 1000 ∧ (l = [] → K (.tup [.agg [.str ByteArray.empty, .int .u64 0, .int .i64 0, .nils], .bool false]) (inH false l)) ∧
   (∀ f s k xs r, l = (f, s, k, xs) :: r → K (.tup [.agg [.str f, .int .u64 s, .int .i64 k, .own 2], .bool true]) (inH false l ++ [.row true 8 (.int .i64) xs]))
 | _ => False
theorem s30 : Sound Tryz.prog 30 C30 := by
 refine sound_of_okF ok30 (.cons s11 (callable_of_okF ok11) (.cons s75 (callable_of_okF ok75) .nil)) ?_
 intro args hp K h
 unfold C30 at h
 split at h
 ·obtain ⟨l, rfl, hl, h0, h1⟩ := h
  refine ⟨by simp, [], ?_⟩
  have hmx := maxLen_val
  unfold inH at h0 h1 ⊢
  simp (maxSteps:=9^9) only [a30, r30, C11, C75, go_sem, Int.reduceToNat, Nat.reduceLeDiff, Nat.reduceSub, Nat.reduceLT, Nat.reduceBEq, Nat.reduceAdd]
  refine ⟨hl, ?_⟩
  rintro c rfl
  refine sw_intro (fun hc => ?_) (fun hc => ?_) <;> simp only [decide_eq_true_eq, decide_eq_false_iff_not] at hc
  ·exact h0 (List.length_eq_zero_iff.1 (by omega))
  ·match l, h1, hc with
   | (f, s, k, xs) :: r, h1, _ => exact nd_intro (by simp only [List.length_cons]; omega) (h1 f s k xs r rfl)
 ·exact h.elim
def C35 : Contract := fun args hp K => match args with
 | [.ptr 0 0] => onIn hp fun l => l.length ≤ 1000 ∧ (l = [] → K (.tup [.agg [.str ByteArray.empty, .int .u64 0, .int .i64 0, .nils], .bool false]) (inH false l)) ∧
   (∀ f s k xs r, l = (f, s, k, xs) :: r → K (.tup [.agg [.str f, .int .u64 s, .int .i64 k, .own 2], .bool true]) (inH true r ++ [.row true 8 (.int .i64) xs]))
 | _ => False
theorem s35 : Sound Tryz.prog 35 C35 := by
 refine sound_of_okF ok35 (.cons s30 (callable_of_okF ok30) .nil) ?_
 intro args hp K h
 unfold C35 at h
 split at h
 ·obtain ⟨l, rfl, hl, h0, h1⟩ := h
  refine ⟨by simp, [], ?_⟩
  have hmx := maxLen_val
  unfold inH at h0 h1 ⊢
  simp (maxSteps:=9^9) only [a35, r35, inH, C30, go_sem, Int.reduceLE, Int.reduceToNat, Nat.reduceLeDiff, Nat.reduceSub, Nat.reduceLT, Nat.reduceBEq, Nat.reduceAdd]
  refine ⟨hl, h0, fun f s k xs r e => ?_⟩
  have h2 := h1 f s k xs r e
  subst e
  refine nd_intro (by simp only [List.length_cons]; omega) ?_
  simpa using h2
 ·exact h.elim
theorem take_eltL {l : List LetT.den} {i : Nat} (h : i < l.length) : l.take i ++ [((elt LetT l i).1, (elt LetT l i).2.1, (elt LetT l i).2.2.1, (elt LetT l i).2.2.2)] = l.take (i + 1) := take_elt (t := LetT) h
def C92 : Contract := fun args hp K => match args, hp with
 | [x], [] => onL LetT 56 x fun l => l.length ≤ 1000 ∧ K (.own 0) [.row true 56 LetT l]
 | _, _ => False
def L92 (p : Bool) (l : List LetT.den) : LoopAnn := cntA (fun i => ⟨[(3, .own 0), (6, .sl p 56 LetT l), (7, .int .i64 l.length), (8, .int .i64 i)], [.row true 56 LetT (l.take i)]⟩) l.length
theorem s92 : Sound Tryz.prog 92 C92 := by
 refine sound_of_okF ok92 (.cons s75 (callable_of_okF ok75) .nil) ?_
 intro args hp K h
 unfold C92 at h
 split at h
 ·rename_i x
  have hmx := maxLen_val
  rcases h with ⟨rfl, hl, h⟩ | ⟨p, l, rfl, hl, h⟩
  ·refine ⟨by simp, [(1, cntA (fun i => ⟨[(3, .own 0), (6, .nils), (7, .int .i64 0), (8, .int .i64 i)], [.row true 56 LetT []]⟩) 0)], ?_⟩
   simp (maxSteps:=9^9) only [a92, r92, go_sem, Nat.reduceBEq]
   refine loop_intro (A := cntA _ 0) (0 : Nat) ?_ (Nat.zero_le _) ?_
   ·simp (maxSteps:=9^9) only [cntA_I, go_sem, Nat.reduceBEq]
    rfl
   ·intro (i : Nat) (hi : i ≤ 0)
    simp (maxSteps:=9^9) only [cntA_I, go_sem, Nat.reduceBEq]
    rintro c rfl
    refine sw_intro (fun hc => ?_) (fun hc => ?_) <;> simp only [decide_eq_true_eq, decide_eq_false_iff_not] at hc
    ·exact absurd hc (by omega)
    ·exact h
  ·refine ⟨by simp, [(1, L92 p l)], ?_⟩
   simp (maxSteps:=9^9) only [a92, r92, go_sem, Nat.reduceBEq]
   rintro _ _ m rfl
   refine loop_intro (A := L92 p l) (0 : Nat) ?_ (Nat.zero_le _) ?_
   ·simp (maxSteps:=9^9) only [L92, cntA_I, go_sem, Nat.reduceBEq]
    rfl
   ·intro (i : Nat) (hi : i ≤ l.length)
    simp (maxSteps:=9^9) only [L92, cntA_I, C75, go_sem, Nat.reduceLeDiff, Nat.reduceSub, Nat.reduceMul, Nat.reduceLT, Nat.reduceBEq, Nat.reduceAdd]
    rintro c rfl
    refine sw_intro (fun hc => ?_) (fun hc => ?_) <;> simp only [decide_eq_true_eq, decide_eq_false_iff_not] at hc
    ·refine nd_intro hc ⟨fun _ => by rw [List.length_take]; omega, ?_⟩
     rintro _ _ _ m hm
     rw [w64 (by omega)] at hm
     subst hm
     rw [take_eltL hc]
     exact cntA_next hc (by simp (maxSteps:=9^9) only [go_sem, Nat.reduceBEq]; rfl)
    ·rw [List.take_of_length_le (by omega)]
     exact h
 ·exact h.elim
end Go.V
namespace Go.V
open Go.Proofs
set_option maxRecDepth 100000
set_option maxHeartbeats 8000000
set_option linter.unusedSimpArgs false
set_option linter.unnecessarySimpa false
set_option linter.unusedVariables false
def out0 : SV := .agg [.bool false, .bool false, .int .i64 0, .int .i64 0, .nils]
@[go_sem] theorem ActS.fold (S : ActS) : ActS.mk S.o S.l S.m S.b S.ev S.v S.inb S.tries S.poi = S := rfl
def acG (fi : Bool) (S : ActS) : List SB := [.struct [.ptr 1 0, .ptr 3 0, .ptr 5 0, .int .i64 S.tries, .sl true 56 LetT S.poi], .struct [.arr 8 (.int .i64) S.b, .own 2, .int .u64 S.v], .row false 16 EvT S.ev, .struct [.own 4], .row fi 56 LetT S.inb,
 .struct [.str S.o, .own 6, .mp 7], .row false 72 OutT S.l, .map false .str (.int .u64) S.m]
def C32 : Contract := fun args hp K => match args with
 | [.ptr 0 0, .agg [.bool false, .bool false, .int .i64 e, .int .i64 n, .nils]] => onA hp fun S => (0 ≤ S.tries ∧ S.tries < 3) ∧ S.inb ≠ [] ∧ S.inb.length ≤ 1000 ∧ S.poi.length ≤ 8 ∧
   (S.tries + 1 < 3 → K (.tup [.agg [.bool false, .bool false, .int .i64 e, .int .i64 n, .nils], .int .i64 0]) (acH false { S with tries := S.tries + 1 })) ∧
   (¬ S.tries + 1 < 3 → 8 ≤ S.poi.length → K (.tup [out0, .int .i64 8]) (acH false S)) ∧
   (¬ S.tries + 1 < 3 → ¬ 8 ≤ S.poi.length → ∀ x r, S.inb = x :: r → K (.tup [.agg [.bool false, .bool true, .int .i64 e, .int .i64 n, .nils], .int .i64 0]) (acG true { S with inb := r, poi := S.poi ++ [x], tries := 0 }))
 | _ => False
theorem s32 : Sound Tryz.prog 32 C32 := by
 refine sound_of_okF ok32 (.cons s35 (callable_of_okF ok35) (.cons s92 (callable_of_okF ok92) .nil)) ?_
 intro args hp K h
 unfold C32 at h
 split at h
 ·rename_i e n
  obtain ⟨S, rfl, h0, h1, h2, h3, k1, k2, k3⟩ := h
  refine ⟨by simp, [], ?_⟩
  have hmx := maxLen_val
  unfold acH at k1 k2 ⊢
  unfold acG at k3
  simp (maxSteps:=9^9) only [a32, r32, C35, C92, inH, go_sem, Nat.reduceLeDiff, Nat.reduceSub, Nat.reduceMul, Nat.reduceLT, Nat.reduceBEq, Nat.reduceAdd]
  rintro _ _ m hm c rfl
  rw [w64 (by omega)] at hm
  subst hm
  refine sw_intro (fun hc => ?_) (fun hc => ?_) <;> simp only [decide_eq_true_eq, decide_eq_false_iff_not] at hc
  ·rintro _ _ m hm
   rw [w64 (by omega)] at hm
   subst hm
   exact k1 hc
  rintro _ _ m rfl c rfl
  refine sw_intro (fun hd => ?_) (fun hd => ?_) <;> simp only [decide_eq_true_eq, decide_eq_false_iff_not] at hd
  ·exact k2 hc (by omega)
  refine ⟨h2, fun h9 => (h1 h9).elim, fun f s k xs r hr => ⟨by omega, fun _ => by omega, fun _ => k3 hc (by omega) (f, s, k, xs) r hr⟩⟩
 ·exact h.elim
end Go.V
namespace Go.V
open Go.Proofs
set_option maxRecDepth 100000
set_option maxHeartbeats 4000000
set_option linter.unusedSimpArgs false
set_option linter.unnecessarySimpa false
set_option linter.unusedVariables false
/-! ### what a run keeps -/
theorem sendM_ev {M T : Mc} {to : ByteArray} {x y : Int} (h : T.ev = M.ev) : (sendM T to x y).ev = M.ev := by
 unfold sendM
 split
 ·exact h
 have hr := (refM_k T (decide (4 ≤ (T.sent.length : Int)))).ev
 split
 ·show (refM T _).ev = _
  rw [hr, h]
 ·rw [hr, h]
theorem remM_ev {M T : Mc} {nm : ByteArray} {x y : Int} {b : Bool} (h : T.ev = M.ev) : (remM T nm x y b).ev = M.ev := by
 unfold remM
 have hr := (refM_k T b).ev
 split
 ·show (refM T _).ev = _
  rw [hr, h]
 ·rw [hr, h]
theorem stepN_ev (M : Mc) (n : Nat) (arg : Int) : (stepN M n arg).ev = M.ev ∨ (n = 3 ∧ ∃ x, (stepN M n arg).ev = M.ev ++ [(arg, x)]) := by
 unfold stepN
 split
 ·exact .inl rfl
 ·exact .inl (pushM_k _ _).ev
 ·exact .inl (pushM_k _ _).ev
 ·have h := popM_k M
  split
  ·refine .inr ⟨rfl, (popM M).1, ?_⟩
   show (popM M).2.ev ++ _ = _
   rw [h.ev]
  ·exact .inl h.ev
 ·split <;> exact .inl (pushM_k _ _).ev
 ·exact .inl (pushM_k _ _).ev
 ·exact .inl ((twoM_k M).trans (pushM_k _ _)).ev
 ·exact .inl ((twoM_k M).trans (pushM_k _ _)).ev
 ·exact .inl ((twoM_k M).trans (pushM_k _ _)).ev
 ·exact .inl ((twoM_k M).trans (pushM_k _ _)).ev
 ·exact .inl ((twoM_k M).trans (pushM_k _ _)).ev
 ·exact .inl ((popM_k M).trans (pushM_k _ _)).ev
 ·exact .inl ((popM_k M).trans (pushM_k _ _)).ev
 ·exact .inl (popM_k M).ev
 ·exact .inl ((twoM_k M).trans (pushM_k _ _)).ev
 ·exact .inl rfl
 ·have h := popM_k M
  split <;> exact .inl h.ev
 ·exact .inl (refM_k _ _).ev
 ·exact .inl (pushM_k _ _).ev
 ·exact .inl (pushM_k _ _).ev
 ·left
  unfold outM
  split
  ·exact sendM_ev (twoM_k M).ev
  split
  ·exact sendM_ev (twoM_k M).ev
  split
  ·exact remM_ev (twoM_k M).ev
  split
  ·rfl
  ·rfl
structure RunOk (N : Mc) : Prop where
 ev : N.ev.all okEv = true
 e5 : N.ev.length ≤ 500
 s5 : N.sent.length ≤ 500
 t5 : N.tim.length ≤ 500
 steps : 0 ≤ N.steps ∧ N.steps ≤ 500
 st8 : N.st.length = 8
theorem InvM.run {names code args M} (h : InvM names code args M) (he : M.ev.all okEv = true) : RunOk M :=
 ⟨he, by have := h.ev; have := h.steps; omega, by have := h.sent; have := h.steps; omega, by have := h.tim; have := h.steps; omega, h.steps, h.st8⟩
theorem iterM_run {names code args M} (h : InvM names code args M) (hc : code.length ≤ 200) (hi : code.all (insOk names.length code.length) = true) (hp : M.pc < (code.length : Int)) (h5 : ¬ M.steps = 500) (he : M.ev.all okEv = true) : RunOk (iterM M (elt EvT code M.pc.toNat)) := by
 have hs := h.steps
 have hpc := h.pc
 have hlt : M.pc.toNat < code.length := by omega
 have ho := insOk_arg (List.all_eq_true.1 hi _ (List.mem_of_getElem? (elt_get hlt)))
 have k := stepN_k { M with steps := M.steps + 1, pc := M.pc + 1 } (elt EvT code M.pc.toNat).1.toNat (elt EvT code M.pc.toNat).2
 have h1 := h.ev
 have h2 := h.sent
 have h3 := h.tim
 have k1 : (iterM M (elt EvT code M.pc.toNat)).ev.length ≤ M.ev.length + 1 := k.ev
 have k2 : (iterM M (elt EvT code M.pc.toNat)).sent.length ≤ M.sent.length + 1 := k.sent
 have k3 : (iterM M (elt EvT code M.pc.toNat)).tim.length ≤ M.tim.length + 1 := k.tim
 have k4 : (iterM M (elt EvT code M.pc.toNat)).steps = M.steps + 1 := k.steps
 refine ⟨?_, by omega, by omega, by omega, ⟨by omega, by omega⟩, k.st.trans h.st8⟩
 rcases stepN_ev { M with steps := M.steps + 1, pc := M.pc + 1 } (elt EvT code M.pc.toNat).1.toNat (elt EvT code M.pc.toNat).2 with e | ⟨en, x, e⟩
 ·have e : (iterM M (elt EvT code M.pc.toNat)).ev = M.ev := e
  rw [e]
  exact he
 ·have e : (iterM M (elt EvT code M.pc.toNat)).ev = M.ev ++ [((elt EvT code M.pc.toNat).2, x)] := e
  obtain ⟨⟨h1, _⟩, h4, _⟩ := ho
  have h4 := h4 (.inr (toNat_is h1 en))
  rw [e, List.all_append, he]
  simp only [List.all_cons, List.all_nil, okEv, Bool.true_and, Bool.and_true, Bool.and_eq_true, decide_eq_true_eq]
  exact h4
theorem runI_ok {names code args} (hc : code.length ≤ 200) (hi : code.all (insOk names.length code.length) = true) : ∀ (n : Nat) (M : Mc), InvM names code args M → M.ev.all okEv = true → RunOk (runI n M).1
 | 0, M, h, he => h.run he
 | n + 1, M, h, he => by
  by_cases h1 : M.done = true ∨ ¬ (M.pc < (M.code.length : Int))
  ·rw [runI_end h1]
   exact h.run he
  by_cases h5 : M.steps = 500
  ·rw [runI_budget h1 h5]
   exact h.run he
  have hp : M.pc < (code.length : Int) := by
   rw [← h.code]
   exact Decidable.not_not.1 (fun hh => h1 (.inr hh))
  have hr := iterM_run h hc hi hp h5 he
  by_cases hf : (iterM M (elt EvT M.code M.pc.toNat)).failed ≠ 0
  ·rw [runI_fail h1 h5 hf, h.code]
   exact hr
  ·rw [runI_next h1 h5 hf]
   rw [h.code] at hf ⊢
   exact runI_ok hc hi n _ (h.next hc hi hp h5 hf) hr.ev
theorem startM_inv {names code f s k args now st} (h8 : st.length = 8) : InvM names code args (startM names code f s k args now st) :=
 ⟨rfl, rfl, rfl, ⟨Int.le_refl 0, by show (0 : Int) ≤ 500; omega⟩, ⟨Int.le_refl 0, by show (0 : Int) ≤ 200; omega⟩, by show 0 ≤ 16; omega, h8, by show ((0 : Nat) : Int) ≤ 0; omega, by show ((0 : Nat) : Int) ≤ 0; omega, by show ((0 : Nat) : Int) ≤ 0; omega, rfl⟩
end Go.V
