/- A part of the proof layer, or functions of the given program in it: contracts and their proofs. -/
import Derived.Test.YtbcmjkfdeikkhaaGreatMN4
namespace Go.V
open Go.Proofs
set_option maxRecDepth 100000
set_option maxHeartbeats 4000000
set_option linter.unusedSimpArgs false
set_option linter.unnecessarySimpa false
set_option linter.unusedVariables false
def sendM (T : Mc) (to : ByteArray) (x y : Int) : Mc :=
 if to = ByteArray.empty then T
 else if (refM T (decide (4 ≤ (T.sent.length : Int)))).failed = 0 then { (refM T (decide (4 ≤ (T.sent.length : Int)))) with sent := (refM T (decide (4 ≤ (T.sent.length : Int)))).sent ++ [(to, x, y)] }
 else refM T (decide (4 ≤ (T.sent.length : Int)))
def remM (T : Mc) (nm : ByteArray) (x y : Int) (b : Bool) : Mc :=
 if (refM T b).failed = 0 then { (refM T b) with tim := (refM T b).tim ++ [(nm, false, IntKind.i64.wrap (T.now + x), y, (refM T b).k)] } else refM T b
def badR (T : Mc) (x y : Int) : Bool := decide (x < 0) || (decide (IntKind.i64.wrap (T.now + x) < 0) || decide (y < 1))
def nmI (M : Mc) (arg : Int) : ByteArray := elt .str M.names arg.toNat
def outM (M : Mc) (op arg : Int) : Mc :=
 if op = 17 then sendM (twoM M).2 (nmI (twoM M).2 arg) (twoM M).1.1 (twoM M).1.2
 else if op = 18 then sendM (twoM M).2 (twoM M).2.f (twoM M).1.1 (twoM M).1.2
 else if op = 19 then remM (twoM M).2 (nmI (refM (twoM M).2 (badR (twoM M).2 (twoM M).1.1 (twoM M).1.2)) arg) (twoM M).1.1 (twoM M).1.2 (badR (twoM M).2 (twoM M).1.1 (twoM M).1.2)
 else if op = 20 then { M with tim := M.tim ++ [(nmI M arg, true, 0, 0, 0)] }
 else M
theorem popM_keep (M : Mc) : (popM M).2.names = M.names ∧ (popM M).2.sent = M.sent ∧ (popM M).2.tim = M.tim ∧ (popM M).2.st = M.st ∧ (popM M).2.ev = M.ev ∧ (popM M).2.code = M.code ∧ (popM M).2.steps = M.steps ∧ (popM M).2.args = M.args := by
 unfold popM
 split
 ·exact ⟨rfl, rfl, rfl, rfl, rfl, rfl, rfl, rfl⟩
 ·split <;> exact ⟨rfl, rfl, rfl, rfl, rfl, rfl, rfl, rfl⟩
theorem twoM_keep (M : Mc) : (twoM M).2.names = M.names ∧ (twoM M).2.sent = M.sent ∧ (twoM M).2.tim = M.tim ∧ (twoM M).2.st = M.st ∧ (twoM M).2.ev = M.ev ∧ (twoM M).2.code = M.code ∧ (twoM M).2.steps = M.steps ∧ (twoM M).2.args = M.args := by
 have h1 := popM_keep M
 have h2 := popM_keep (popM M).2
 unfold twoM
 exact ⟨h2.1.trans h1.1, h2.2.1.trans h1.2.1, h2.2.2.1.trans h1.2.2.1, h2.2.2.2.1.trans h1.2.2.2.1, h2.2.2.2.2.1.trans h1.2.2.2.2.1, h2.2.2.2.2.2.1.trans h1.2.2.2.2.2.1, h2.2.2.2.2.2.2.1.trans h1.2.2.2.2.2.2.1, h2.2.2.2.2.2.2.2.trans h1.2.2.2.2.2.2.2⟩
theorem refM_keep (M : Mc) (b : Bool) : (refM M b).names = M.names ∧ (refM M b).sent = M.sent ∧ (refM M b).tim = M.tim ∧ (refM M b).st = M.st ∧ (refM M b).ev = M.ev ∧ (refM M b).code = M.code ∧ (refM M b).steps = M.steps ∧ (refM M b).args = M.args ∧ (refM M b).stack = M.stack := by
 unfold refM
 split <;> exact ⟨rfl, rfl, rfl, rfl, rfl, rfl, rfl, rfl, rfl⟩
theorem twoM_stack {M : Mc} (h : M.stack.length ≤ 16) : (twoM M).2.stack.length ≤ 16 := popM_stack (popM_stack h)
def C121 : Contract := fun args hp K => match args with
 | [.ptr 0 0, .agg [.int .i64 op, .int .i64 arg]] => onM hp fun M => M.stack.length ≤ 16 ∧ M.sent.length ≤ 1000 ∧ M.tim.length ≤ 1000 ∧ (17 ≤ op ∧ op ≤ 20) ∧ (op = 17 ∨ op = 19 ∨ op = 20 → 0 ≤ arg ∧ arg < M.names.length) ∧ K (.tup []) (mcH true (outM M op arg))
 | _ => False
theorem s121 : Sound Tryz.prog 121 C121 := by
 refine sound_of_okF ok121 (.cons s119 (callable_of_okF ok119) (.cons s120 (callable_of_okF ok120) .nil)) ?_
 intro args hp K h
 unfold C121 at h
 split at h
 ·rename_i op arg
  obtain ⟨M, rfl, h1, h2, h3, h5, h4, h⟩ := h
  refine ⟨by simp, [], ?_⟩
  have hmx := maxLen_val
  have tk := twoM_keep M
  have ks : ∀ b, (refM (twoM M).2 b).sent.length = M.sent.length := fun b => by rw [(refM_keep _ b).2.1, tk.2.1]
  have kt : ∀ b, (refM (twoM M).2 b).tim.length = M.tim.length := fun b => by rw [(refM_keep _ b).2.2.1, tk.2.2.1]
  have kn : ∀ b, (refM (twoM M).2 b).names.length = M.names.length := fun b => by rw [(refM_keep _ b).1, tk.1]
  have kn0 : (twoM M).2.names.length = M.names.length := by rw [tk.1]
  unfold outM at h
  by_cases c17 : op = 17
  ·subst c17
   rw [if_pos rfl] at h
   have h4 := h4 (.inl rfl)
   unfold mcH at h ⊢
   simp (maxSteps:=9^9) only [a121, r121, C119, C120, mcH, go_sem, Nat.reduceLeDiff, Nat.reduceSub, Nat.reduceMul, Nat.reduceLT, Nat.reduceBEq, Nat.reduceAdd]
   refine ⟨h1, nd_intro ⟨h4.1, by omega⟩ (nd_intro (by omega) ?_)⟩
   unfold nmI at h
   generalize elt .str (twoM M).2.names arg.toNat = to at *
   unfold sendM at h
   rintro c rfl
   refine sw_intro (fun c1 => ?_) (fun c1 => ?_) <;> simp only [decide_eq_true_eq, decide_eq_false_iff_not] at c1
   ·rw [if_pos c1] at h
    exact h
   rw [if_neg c1] at h
   rintro _ _ m rfl c rfl
   refine sw_intro (fun c2 => ?_) (fun c2 => ?_) <;> simp only [decide_eq_true_eq, decide_eq_false_iff_not] at c2
   ·rw [if_pos c2] at h
    have := ks (decide (4 ≤ ((twoM M).2.sent.length : Int)))
    exact ⟨fun _ => by omega, fun _ => h⟩
   ·rw [if_neg c2] at h
    exact h
  rw [if_neg c17] at h
  by_cases c18 : op = 18
  ·subst c18
   rw [if_pos rfl] at h
   unfold mcH at h ⊢
   simp (maxSteps:=9^9) only [a121, r121, C119, C120, mcH, go_sem, Int.reduceEq, Nat.reduceLeDiff, Nat.reduceSub, Nat.reduceMul, Nat.reduceLT, Nat.reduceBEq, Nat.reduceAdd]
   refine ⟨h1, ?_⟩
   unfold sendM at h
   rintro c rfl
   refine sw_intro (fun c1 => ?_) (fun c1 => ?_) <;> simp only [decide_eq_true_eq, decide_eq_false_iff_not] at c1
   ·rw [if_pos c1] at h
    exact h
   rw [if_neg c1] at h
   rintro _ _ m rfl c rfl
   refine sw_intro (fun c2 => ?_) (fun c2 => ?_) <;> simp only [decide_eq_true_eq, decide_eq_false_iff_not] at c2
   ·rw [if_pos c2] at h
    have := ks (decide (4 ≤ ((twoM M).2.sent.length : Int)))
    exact ⟨fun _ => by omega, fun _ => h⟩
   ·rw [if_neg c2] at h
    exact h
  rw [if_neg c18] at h
  by_cases c19 : op = 19
  ·subst c19
   rw [if_pos rfl] at h
   have h4 := h4 (.inr (.inl rfl))
   unfold mcH at h ⊢
   simp (maxSteps:=9^9) only [a121, r121, C119, C120, mcH, go_sem, Int.reduceEq, Nat.reduceLeDiff, Nat.reduceSub, Nat.reduceMul, Nat.reduceLT, Nat.reduceBEq, Nat.reduceAdd]
   refine ⟨h1, ?_⟩
   rintro _ _ m rfl
   unfold remM nmI at h
   rintro c rfl
   refine sw_intro (fun c1 => ?_) (fun c1 => ?_)
   ·have hb : badR (twoM M).2 (twoM M).1.1 (twoM M).1.2 = true := by unfold badR; rw [c1]; rfl
    rw [hb] at h
    refine sw_intro (fun c3 => ?_) (fun c3 => ?_) <;> simp only [decide_eq_true_eq, decide_eq_false_iff_not] at c3
    ·rw [if_pos c3] at h
     have a1 := kt true
     have a2 := kn true
     exact nd_intro ⟨h4.1, by omega⟩ (nd_intro (by omega) ⟨fun _ => by omega, fun _ => h⟩)
    ·rw [if_neg c3] at h
     exact h
   rintro c rfl
   refine sw_intro (fun c2 => ?_) (fun c2 => ?_)
   ·have hb : badR (twoM M).2 (twoM M).1.1 (twoM M).1.2 = true := by unfold badR; rw [c1, c2]; rfl
    rw [hb] at h
    refine sw_intro (fun c3 => ?_) (fun c3 => ?_) <;> simp only [decide_eq_true_eq, decide_eq_false_iff_not] at c3
    ·rw [if_pos c3] at h
     have a1 := kt true
     have a2 := kn true
     exact nd_intro ⟨h4.1, by omega⟩ (nd_intro (by omega) ⟨fun _ => by omega, fun _ => h⟩)
    ·rw [if_neg c3] at h
     exact h
   ·have hb : badR (twoM M).2 (twoM M).1.1 (twoM M).1.2 = decide ((twoM M).1.2 < 1) := by unfold badR; rw [c1, c2]; rfl
    rw [hb] at h
    rintro c rfl
    refine sw_intro (fun c3 => ?_) (fun c3 => ?_) <;> simp only [decide_eq_true_eq, decide_eq_false_iff_not] at c3
    ·rw [if_pos c3] at h
     have a1 := kt (decide ((twoM M).1.2 < 1))
     have a2 := kn (decide ((twoM M).1.2 < 1))
     exact nd_intro ⟨h4.1, by omega⟩ (nd_intro (by omega) ⟨fun _ => by omega, fun _ => h⟩)
    ·rw [if_neg c3] at h
     exact h
  rw [if_neg c19] at h
  by_cases c20 : op = 20
  ·subst c20
   rw [if_pos rfl] at h
   have h4 := h4 (.inr (.inr rfl))
   unfold mcH at h ⊢
   simp (maxSteps:=9^9) only [a121, r121, go_sem, Int.reduceEq, Nat.reduceLeDiff, Nat.reduceSub, Nat.reduceMul, Nat.reduceBEq, Nat.reduceAdd]
   unfold nmI at h
   exact nd_intro ⟨h4.1, by omega⟩ (nd_intro (by omega) ⟨fun _ => by omega, fun _ => h⟩)
  omega
 ·exact h.elim
end Go.V
namespace Go.V
open Go.Proofs
set_option maxRecDepth 100000
set_option maxHeartbeats 8000000
set_option linter.unusedSimpArgs false
set_option linter.unnecessarySimpa false
set_option linter.unusedVariables false
def stepN (M : Mc) (n : Nat) (arg : Int) : Mc :=
 match n with
 | 0 => { M with done := true }
 | 1 => pushM M [arg]
 | 2 => pushM M [elt (.int .i64) M.st arg.toNat]
 | 3 => if (popM M).2.failed = 0 then { (popM M).2 with st := (popM M).2.st.set arg.toNat (popM M).1, ev := (popM M).2.ev ++ [(arg, (popM M).1)] } else (popM M).2
 | 4 => if arg < (M.args.length : Int) then pushM M [elt (.int .i64) M.args arg.toNat] else pushM M [0]
 | 5 => pushM M [M.k]
 | 6 => pushM (twoM M).2 [opI 6 (twoM M).1.1 (twoM M).1.2]
 | 7 => pushM (twoM M).2 [opI 7 (twoM M).1.1 (twoM M).1.2]
 | 8 => pushM (twoM M).2 [opI 8 (twoM M).1.1 (twoM M).1.2]
 | 9 => pushM (twoM M).2 [opI 9 (twoM M).1.1 (twoM M).1.2]
 | 10 => pushM (twoM M).2 [opI 10 (twoM M).1.1 (twoM M).1.2]
 | 11 => pushM (popM M).2 [truthI (decide ((popM M).1 = 0))]
 | 12 => pushM (popM M).2 [(popM M).1, (popM M).1]
 | 13 => (popM M).2
 | 14 => pushM (twoM M).2 [(twoM M).1.2, (twoM M).1.1]
 | 15 => { M with pc := arg }
 | 16 => if (popM M).1 = 0 ∧ (popM M).2.failed = 0 then { (popM M).2 with pc := arg } else (popM M).2
 | 21 => refM M true
 | 22 => pushM M [M.now]
 | 23 => pushM M [IntKind.i64.wrap M.s]
 | n => outM M n arg
def argOk (M : Mc) (n : Nat) (arg : Int) : Prop :=
 ((n = 2 ∨ n = 3) → 0 ≤ arg ∧ arg < 8) ∧ (n = 4 → 0 ≤ arg ∧ arg < 4) ∧ (n = 17 ∨ n = 19 ∨ n = 20 → 0 ≤ arg ∧ arg < M.names.length)
structure OkM (M : Mc) : Prop where
 stack : M.stack.length ≤ 16
 st8 : M.st.length = 8
 ev : M.ev.length ≤ 1000
 sent : M.sent.length ≤ 1000
 tim : M.tim.length ≤ 1000
def C91 : Contract := fun args hp K => match args with
 | [.ptr 0 0, .agg [.int .i64 op, .int .i64 arg]] => onM hp fun M => OkM M ∧ (0 ≤ op ∧ op ≤ 23) ∧ argOk M op.toNat arg ∧ K (.tup []) (mcH true (stepN M op.toNat arg))
 | _ => False
theorem s91 : Sound Tryz.prog 91 C91 := by
 refine sound_of_okF ok91 (.cons s115 (callable_of_okF ok115) (.cons s116 (callable_of_okF ok116) (.cons s117 (callable_of_okF ok117) (.cons s118 (callable_of_okF ok118) (.cons s119 (callable_of_okF ok119) (.cons s120 (callable_of_okF ok120) (.cons s121 (callable_of_okF ok121) .nil))))))) ?_
 intro args hp K h
 unfold C91 at h
 split at h
 ·rename_i op arg
  obtain ⟨M, rfl, hM, ho, ha, h⟩ := h
  refine ⟨by simp, [], ?_⟩
  have hmx := maxLen_val
  have h1 := hM.stack
  have hp1 := popM_stack h1
  have ht1 := twoM_stack h1
  have pk := popM_keep M
  obtain ⟨a1, a2, a3⟩ := ha
  have hn : op = 0 ∨ op = 1 ∨ op = 2 ∨ op = 3 ∨ op = 4 ∨ op = 5 ∨ op = 6 ∨ op = 7 ∨ op = 8 ∨ op = 9 ∨ op = 10 ∨ op = 11 ∨ op = 12 ∨ op = 13 ∨ op = 14 ∨ op = 15 ∨ op = 16 ∨ op = 17 ∨ op = 18 ∨ op = 19 ∨ op = 20 ∨ op = 21 ∨ op = 22 ∨ op = 23 := by omega
  unfold mcH at h ⊢
  rcases hn with rfl | rfl | rfl | rfl | rfl | rfl | rfl | rfl | rfl | rfl | rfl | rfl | rfl | rfl | rfl | rfl | rfl | rfl | rfl | rfl | rfl | rfl | rfl | rfl
  ·simp (maxSteps:=9^9) only [a91, r91, go_sem, Nat.reduceLeDiff, Nat.reduceSub, Nat.reduceMul, Nat.reduceBEq, Nat.reduceAdd]
   exact h
  ·simp (maxSteps:=9^9) only [a91, r91, C115, mcH, go_sem, Int.reduceEq, Nat.reduceLeDiff, Nat.reduceSub, Nat.reduceMul, Nat.reduceLT, Nat.reduceBEq, Nat.reduceAdd]
   exact ⟨rfl, h1, h⟩
  ·simp (maxSteps:=9^9) only [a91, r91, C115, mcH, go_sem, Int.reduceEq, Nat.reduceLeDiff, Nat.reduceSub, Nat.reduceMul, Nat.reduceLT, Nat.reduceBEq, Nat.reduceAdd]
   have b := a1 (.inl rfl)
   exact nd_intro b (nd_intro (by omega) ⟨rfl, h1, h⟩)
  ·simp (maxSteps:=9^9) only [a91, r91, C116, mcH, go_sem, Int.reduceEq, Nat.reduceLeDiff, Nat.reduceSub, Nat.reduceMul, Nat.reduceLT, Nat.reduceBEq, Nat.reduceAdd]
   have b := a1 (.inr rfl)
   refine ⟨h1, ?_⟩
   rw [show stepN M (3 : Int).toNat arg = if (popM M).2.failed = 0 then { (popM M).2 with st := (popM M).2.st.set arg.toNat (popM M).1, ev := (popM M).2.ev ++ [(arg, (popM M).1)] } else (popM M).2 from rfl] at h
   have hev : (popM M).2.ev.length ≤ 1000 := by rw [pk.2.2.2.2.1]; exact hM.ev
   rintro c rfl
   refine sw_intro (fun c1 => ?_) (fun c1 => ?_) <;> simp only [decide_eq_true_eq, decide_eq_false_iff_not] at c1
   ·rw [if_pos c1] at h
    exact nd_intro b (nd_intro (by omega) ⟨fun _ => by omega, fun _ => h⟩)
   ·rw [if_neg c1] at h
    exact h
  ·simp (maxSteps:=9^9) only [a91, r91, C115, mcH, go_sem, Int.reduceEq, Nat.reduceLeDiff, Nat.reduceSub, Nat.reduceMul, Nat.reduceLT, Nat.reduceBEq, Nat.reduceAdd]
   have b := a2 rfl
   rw [show stepN M (4 : Int).toNat arg = if arg < (M.args.length : Int) then pushM M [elt (.int .i64) M.args arg.toNat] else pushM M [0] from rfl] at h
   rintro _ _ m rfl c rfl
   refine sw_intro (fun c1 => ?_) (fun c1 => ?_) <;> simp only [decide_eq_true_eq, decide_eq_false_iff_not] at c1
   ·rw [if_pos c1] at h
    exact nd_intro ⟨b.1, c1⟩ (nd_intro (by omega) ⟨rfl, h1, h⟩)
   ·rw [if_neg c1] at h
    exact ⟨rfl, h1, h⟩
  ·simp (maxSteps:=9^9) only [a91, r91, C115, mcH, go_sem, Int.reduceEq, Nat.reduceLeDiff, Nat.reduceSub, Nat.reduceMul, Nat.reduceLT, Nat.reduceBEq, Nat.reduceAdd]
   exact ⟨rfl, h1, h⟩
  ·simp (maxSteps:=9^9) only [a91, r91, C115, C117, mcH, go_sem, Int.reduceEq, Nat.reduceLeDiff, Nat.reduceSub, Nat.reduceMul, Nat.reduceLT, Nat.reduceBEq, Nat.reduceAdd]
   exact ⟨h1, rfl, ht1, h⟩
  ·simp (maxSteps:=9^9) only [a91, r91, C115, C117, mcH, go_sem, Int.reduceEq, Nat.reduceLeDiff, Nat.reduceSub, Nat.reduceMul, Nat.reduceLT, Nat.reduceBEq, Nat.reduceAdd]
   exact ⟨h1, rfl, ht1, h⟩
  ·simp (maxSteps:=9^9) only [a91, r91, C115, C117, mcH, go_sem, Int.reduceEq, Nat.reduceLeDiff, Nat.reduceSub, Nat.reduceMul, Nat.reduceLT, Nat.reduceBEq, Nat.reduceAdd]
   exact ⟨h1, rfl, ht1, h⟩
  ·simp (maxSteps:=9^9) only [a91, r91, C115, C117, mcH, go_sem, Int.reduceEq, Nat.reduceLeDiff, Nat.reduceSub, Nat.reduceMul, Nat.reduceLT, Nat.reduceBEq, Nat.reduceAdd]
   exact ⟨h1, rfl, ht1, h⟩
  ·simp (maxSteps:=9^9) only [a91, r91, C115, C117, mcH, go_sem, Int.reduceEq, Nat.reduceLeDiff, Nat.reduceSub, Nat.reduceMul, Nat.reduceLT, Nat.reduceBEq, Nat.reduceAdd]
   exact ⟨h1, rfl, ht1, h⟩
  ·simp (maxSteps:=9^9) only [a91, r91, C115, C116, C118, mcH, go_sem, Int.reduceEq, Nat.reduceLeDiff, Nat.reduceSub, Nat.reduceMul, Nat.reduceLT, Nat.reduceBEq, Nat.reduceAdd]
   refine ⟨h1, ?_⟩
   rintro c rfl
   exact ⟨rfl, hp1, h⟩
  ·simp (maxSteps:=9^9) only [a91, r91, C115, C116, mcH, go_sem, Int.reduceEq, Nat.reduceLeDiff, Nat.reduceSub, Nat.reduceMul, Nat.reduceLT, Nat.reduceBEq, Nat.reduceAdd]
   exact ⟨h1, rfl, hp1, h⟩
  ·simp (maxSteps:=9^9) only [a91, r91, C116, mcH, go_sem, Int.reduceEq, Nat.reduceLeDiff, Nat.reduceSub, Nat.reduceMul, Nat.reduceLT, Nat.reduceBEq, Nat.reduceAdd]
   exact ⟨h1, h⟩
  ·simp (maxSteps:=9^9) only [a91, r91, C115, C119, mcH, go_sem, Int.reduceEq, Nat.reduceLeDiff, Nat.reduceSub, Nat.reduceMul, Nat.reduceLT, Nat.reduceBEq, Nat.reduceAdd]
   exact ⟨h1, rfl, ht1, h⟩
  ·simp (maxSteps:=9^9) only [a91, r91, go_sem, Int.reduceEq, Nat.reduceLeDiff, Nat.reduceSub, Nat.reduceMul, Nat.reduceBEq, Nat.reduceAdd]
   exact h
  ·simp (maxSteps:=9^9) only [a91, r91, C116, mcH, go_sem, Int.reduceEq, Nat.reduceLeDiff, Nat.reduceSub, Nat.reduceMul, Nat.reduceLT, Nat.reduceBEq, Nat.reduceAdd]
   refine ⟨h1, ?_⟩
   rw [show stepN M (16 : Int).toNat arg = if (popM M).1 = 0 ∧ (popM M).2.failed = 0 then { (popM M).2 with pc := arg } else (popM M).2 from rfl] at h
   rintro c rfl
   refine sw_intro (fun c1 => ?_) (fun c1 => ?_) <;> simp only [decide_eq_true_eq, decide_eq_false_iff_not] at c1
   ·rintro c rfl
    refine sw_intro (fun c2 => ?_) (fun c2 => ?_) <;> simp only [decide_eq_true_eq, decide_eq_false_iff_not] at c2
    ·rw [if_pos ⟨c1, c2⟩] at h
     exact h
    ·rw [if_neg (fun hh => c2 hh.2)] at h
     exact h
   ·rw [if_neg (fun hh => c1 hh.1)] at h
    exact h
  ·simp (maxSteps:=9^9) only [a91, r91, C121, mcH, go_sem, Int.reduceLE, Int.reduceEq, Nat.reduceLeDiff, Nat.reduceSub, Nat.reduceMul, Nat.reduceLT, Nat.reduceBEq, Nat.reduceAdd]
   exact ⟨h1, hM.sent, hM.tim, fun _ => a3 (.inl rfl), h⟩
  ·simp (maxSteps:=9^9) only [a91, r91, C121, mcH, go_sem, Int.reduceLE, Int.reduceEq, Nat.reduceLeDiff, Nat.reduceSub, Nat.reduceMul, Nat.reduceLT, Nat.reduceBEq, Nat.reduceAdd]
   exact ⟨h1, hM.sent, hM.tim, fun h9 => by simp at h9, h⟩
  ·simp (maxSteps:=9^9) only [a91, r91, C121, mcH, go_sem, Int.reduceLE, Int.reduceEq, Nat.reduceLeDiff, Nat.reduceSub, Nat.reduceMul, Nat.reduceLT, Nat.reduceBEq, Nat.reduceAdd]
   exact ⟨h1, hM.sent, hM.tim, fun _ => a3 (.inr (.inl rfl)), h⟩
  ·simp (maxSteps:=9^9) only [a91, r91, C121, mcH, go_sem, Int.reduceLE, Int.reduceEq, Nat.reduceLeDiff, Nat.reduceSub, Nat.reduceMul, Nat.reduceLT, Nat.reduceBEq, Nat.reduceAdd]
   exact ⟨h1, hM.sent, hM.tim, fun _ => a3 (.inr (.inr rfl)), h⟩
  ·simp (maxSteps:=9^9) only [a91, r91, C120, mcH, go_sem, Int.reduceEq, Nat.reduceLeDiff, Nat.reduceSub, Nat.reduceMul, Nat.reduceLT, Nat.reduceBEq, Nat.reduceAdd]
   exact h
  ·simp (maxSteps:=9^9) only [a91, r91, C115, mcH, go_sem, Int.reduceEq, Nat.reduceLeDiff, Nat.reduceSub, Nat.reduceMul, Nat.reduceLT, Nat.reduceBEq, Nat.reduceAdd]
   exact ⟨rfl, h1, h⟩
  ·simp (maxSteps:=9^9) only [a91, r91, C115, mcH, go_sem, Int.reduceEq, Nat.reduceLeDiff, Nat.reduceSub, Nat.reduceMul, Nat.reduceLT, Nat.reduceBEq, Nat.reduceAdd]
   rintro _ m rfl
   exact ⟨rfl, h1, h⟩
 ·exact h.elim
end Go.V
namespace Go.V
open Go.Proofs
set_option maxRecDepth 100000
set_option maxHeartbeats 8000000
set_option linter.unusedSimpArgs false
set_option linter.unnecessarySimpa false
set_option linter.unusedVariables false
/-! ### programs -/
abbrev WdT : Ty := .pair .str (.int .i64)
@[go_sem] theorem flat_wd : Ty.flat (.pair .str (.int .i64)) = true := rfl
@[go_sem] theorem drpF {l : List SV} {n : Nat} : drpB false l n = none := rfl
def opT : List (ByteArray × Int) := [(⟨#[104, 97, 108, 116]⟩, 0), (⟨#[112, 117, 115, 104]⟩, 1), (⟨#[108, 111, 97, 100]⟩, 2), (⟨#[115, 116, 111, 114, 101]⟩, 2), (⟨#[97, 114, 103]⟩, 3), (⟨#[107, 105, 110, 100]⟩, 0), (⟨#[97, 100, 100]⟩, 0), (⟨#[115, 117, 98]⟩, 0), (⟨#[109, 117, 108]⟩, 0), (⟨#[108, 101, 115, 115]⟩, 0), (⟨#[101, 113, 117, 97, 108]⟩, 0), (⟨#[110, 111, 116]⟩, 0), (⟨#[100, 117, 112]⟩, 0), (⟨#[100, 114, 111, 112]⟩, 0), (⟨#[115, 119, 97, 112]⟩, 0), (⟨#[106, 117, 109, 112]⟩, 4), (⟨#[106, 117, 109, 112, 122]⟩, 4), (⟨#[115, 101, 110, 100]⟩, 5), (⟨#[114, 101, 112, 108, 121]⟩, 0), (⟨#[114, 101, 109, 105, 110, 100]⟩, 5), (⟨#[99, 97, 110, 99, 101, 108]⟩, 5), (⟨#[102, 97, 105, 108]⟩, 0), (⟨#[110, 111, 119]⟩, 0), (⟨#[115, 101, 114, 105, 97, 108]⟩, 0)]
def opK (op : Int) : Int := (elt WdT opT op.toNat).2
def C89 : Contract := fun args hp K => match args, hp with
 | [.int .i64 op], [] => (¬ (0 ≤ op ∧ op < 24) → K (.tup [.str ByteArray.empty, .int .i64 0, .bool false]) []) ∧ ((0 ≤ op ∧ op < 24) → K (.tup [.str (elt WdT opT op.toNat).1, .int .i64 (opK op), .bool true]) [])
 | _, _ => False
theorem s89 : Sound Tryz.prog 89 C89 := by
 refine sound_of_okF ok89 .nil ?_
 intro args hp K h
 unfold C89 at h
 split at h
 ·rename_i op
  refine ⟨by simp, [], ?_⟩
  simp (maxSteps:=9^9) only [a89, r89, cond_true, go_sem, Nat.reduceLeDiff, Nat.reduceSub, Nat.reduceMul, Nat.reduceBEq, Nat.reduceAdd]
  rintro c rfl
  refine sw_intro (fun c1 => ?_) (fun c1 => ?_) <;> simp only [decide_eq_true_eq, decide_eq_false_iff_not] at c1
  ·exact h.1 (by omega)
  rintro c rfl
  refine sw_intro (fun c2 => ?_) (fun c2 => ?_) <;> simp only [decide_eq_true_eq, decide_eq_false_iff_not] at c2
  ·exact h.1 (by omega)
  have h2 := h.2 ⟨by omega, by omega⟩
  exact nd_intro ⟨by omega, by omega⟩ (nd_intro (by omega) (nd_intro ⟨by omega, by omega⟩ (nd_intro (by omega) h2)))
 ·exact h.elim
def belowI (kind : Int) (n c : Nat) : Int := if kind = 2 then 8 else if kind = 3 then 4 else if kind = 4 then c + 1 else if kind = 5 then n else 1
def C90 : Contract := fun args hp K => match args, hp with
 | [.agg [x, y], .int .i64 k], [] => onL .str 16 x fun names => onL EvT 16 y fun code => (names : List ByteArray).length ≤ 1000 ∧ (code : List EvT.den).length ≤ 1000 ∧ K (.int .i64 (belowI k names.length code.length)) []
 | _, _ => False
theorem s90 : Sound Tryz.prog 90 C90 := by
 refine sound_of_okF ok90 .nil ?_
 intro args hp K h
 unfold C90 at h
 split at h
 ·rename_i x y k
  have hmx := maxLen_val
  rcases h with ⟨rfl, ⟨rfl, hn, hc, h⟩ | ⟨q, code, rfl, hn, hc, h⟩⟩ | ⟨p, names, rfl, ⟨rfl, hn, hc, h⟩ | ⟨q, code, rfl, hn, hc, h⟩⟩
  ·refine ⟨by simp, [], ?_⟩
   simp (maxSteps:=9^9) only [a90, r90, go_sem, Int.reduceAdd, Nat.reduceSub, Nat.reduceBEq, Nat.reduceAdd]
   unfold belowI at h
   rintro c rfl
   refine sw_intro (fun c1 => ?_) (fun c1 => ?_) <;> simp only [decide_eq_true_eq, decide_eq_false_iff_not] at c1
   ·rw [if_pos c1] at h; exact h
   rw [if_neg c1] at h
   rintro c rfl
   refine sw_intro (fun c1 => ?_) (fun c1 => ?_) <;> simp only [decide_eq_true_eq, decide_eq_false_iff_not] at c1
   ·rw [if_pos c1] at h; exact h
   rw [if_neg c1] at h
   rintro c rfl
   refine sw_intro (fun c1 => ?_) (fun c1 => ?_) <;> simp only [decide_eq_true_eq, decide_eq_false_iff_not] at c1
   ·rw [if_pos c1] at h
    rintro _ _ m hm
    rw [w64 (by omega)] at hm
    subst hm
    exact h
   rw [if_neg c1] at h
   rintro c rfl
   refine sw_intro (fun c1 => ?_) (fun c1 => ?_) <;> simp only [decide_eq_true_eq, decide_eq_false_iff_not] at c1
   ·rw [if_pos c1] at h
    skip
    exact h
   rw [if_neg c1] at h
   exact h
  ·refine ⟨by simp, [], ?_⟩
   simp (maxSteps:=9^9) only [a90, r90, go_sem, Nat.reduceSub, Nat.reduceBEq, Nat.reduceAdd]
   unfold belowI at h
   rintro c rfl
   refine sw_intro (fun c1 => ?_) (fun c1 => ?_) <;> simp only [decide_eq_true_eq, decide_eq_false_iff_not] at c1
   ·rw [if_pos c1] at h; exact h
   rw [if_neg c1] at h
   rintro c rfl
   refine sw_intro (fun c1 => ?_) (fun c1 => ?_) <;> simp only [decide_eq_true_eq, decide_eq_false_iff_not] at c1
   ·rw [if_pos c1] at h; exact h
   rw [if_neg c1] at h
   rintro c rfl
   refine sw_intro (fun c1 => ?_) (fun c1 => ?_) <;> simp only [decide_eq_true_eq, decide_eq_false_iff_not] at c1
   ·rw [if_pos c1] at h
    rintro _ _ m rfl _ _ m1 hm1
    rw [w64 (by omega)] at hm1
    subst hm1
    exact h
   rw [if_neg c1] at h
   rintro c rfl
   refine sw_intro (fun c1 => ?_) (fun c1 => ?_) <;> simp only [decide_eq_true_eq, decide_eq_false_iff_not] at c1
   ·rw [if_pos c1] at h
    skip
    exact h
   rw [if_neg c1] at h
   exact h
  ·refine ⟨by simp, [], ?_⟩
   simp (maxSteps:=9^9) only [a90, r90, go_sem, Int.reduceAdd, Nat.reduceSub, Nat.reduceBEq, Nat.reduceAdd]
   unfold belowI at h
   rintro c rfl
   refine sw_intro (fun c1 => ?_) (fun c1 => ?_) <;> simp only [decide_eq_true_eq, decide_eq_false_iff_not] at c1
   ·rw [if_pos c1] at h; exact h
   rw [if_neg c1] at h
   rintro c rfl
   refine sw_intro (fun c1 => ?_) (fun c1 => ?_) <;> simp only [decide_eq_true_eq, decide_eq_false_iff_not] at c1
   ·rw [if_pos c1] at h; exact h
   rw [if_neg c1] at h
   rintro c rfl
   refine sw_intro (fun c1 => ?_) (fun c1 => ?_) <;> simp only [decide_eq_true_eq, decide_eq_false_iff_not] at c1
   ·rw [if_pos c1] at h
    rintro _ _ m hm
    rw [w64 (by omega)] at hm
    subst hm
    exact h
   rw [if_neg c1] at h
   rintro c rfl
   refine sw_intro (fun c1 => ?_) (fun c1 => ?_) <;> simp only [decide_eq_true_eq, decide_eq_false_iff_not] at c1
   ·rw [if_pos c1] at h
    rintro _ _ m rfl
    exact h
   rw [if_neg c1] at h
   exact h
  ·refine ⟨by simp, [], ?_⟩
   simp (maxSteps:=9^9) only [a90, r90, go_sem, Nat.reduceSub, Nat.reduceBEq, Nat.reduceAdd]
   unfold belowI at h
   rintro c rfl
   refine sw_intro (fun c1 => ?_) (fun c1 => ?_) <;> simp only [decide_eq_true_eq, decide_eq_false_iff_not] at c1
   ·rw [if_pos c1] at h; exact h
   rw [if_neg c1] at h
   rintro c rfl
   refine sw_intro (fun c1 => ?_) (fun c1 => ?_) <;> simp only [decide_eq_true_eq, decide_eq_false_iff_not] at c1
   ·rw [if_pos c1] at h; exact h
   rw [if_neg c1] at h
   rintro c rfl
   refine sw_intro (fun c1 => ?_) (fun c1 => ?_) <;> simp only [decide_eq_true_eq, decide_eq_false_iff_not] at c1
   ·rw [if_pos c1] at h
    rintro _ _ m rfl _ _ m1 hm1
    rw [w64 (by omega)] at hm1
    subst hm1
    exact h
   rw [if_neg c1] at h
   rintro c rfl
   refine sw_intro (fun c1 => ?_) (fun c1 => ?_) <;> simp only [decide_eq_true_eq, decide_eq_false_iff_not] at c1
   ·rw [if_pos c1] at h
    rintro _ _ m rfl
    exact h
   rw [if_neg c1] at h
   exact h
 ·exact h.elim
end Go.V
namespace Go.V
open Go.Proofs
set_option maxRecDepth 100000
set_option maxHeartbeats 8000000
set_option linter.unusedSimpArgs false
set_option linter.unnecessarySimpa false
set_option linter.unusedVariables false
def insOk (n c : Nat) (x : EvT.den) : Bool := (decide (0 ≤ x.1) && decide (x.1 < 24)) && (decide (opK x.1 = 1) || (decide (0 ≤ x.2) && decide (x.2 < belowI (opK x.1) n c)))
def formP (names : List ByteArray) (code : List EvT.den) : Bool := (decide (names.length ≤ 8) && decide (code.length ≤ 200)) && (names.all keyOk && code.all (insOk names.length code.length))
theorem formP_iff {names : List ByteArray} {code : List EvT.den} : formP names code = true ↔ (names.length ≤ 8 ∧ code.length ≤ 200) ∧ names.all keyOk = true ∧ code.all (insOk names.length code.length) = true := by
 simp [formP]
def C29 : Contract := fun args hp K => match args, hp with
 | [.agg [x, y]], [] => onL .str 16 x fun names => onL EvT 16 y fun code => K (.bool (formP names code)) []
 | _, _ => False
def L29 (x y : SV) (names : List ByteArray) (z : SV) : LoopAnn := { G := Nat, I := fun i => ⟨[(1, .ptr 0 0), (21, z), (22, .int .i64 names.length), (23, .int .i64 i)], [.struct [x, y]]⟩, R := fun _ i => i ≤ names.length ∧ (names.take i).all keyOk = true, μ := fun i => names.length - i }
theorem L29_I {x y names z} (i : Nat) : (L29 x y names z).I i = ⟨[(1, .ptr 0 0), (21, z), (22, .int .i64 names.length), (23, .int .i64 i)], [.struct [x, y]]⟩ := rfl
def M29 (x y : SV) (n : Nat) (code : List EvT.den) (z : SV) : LoopAnn := { G := Nat, I := fun i => ⟨[(1, .ptr 0 0), (32, z), (33, .int .i64 code.length), (34, .int .i64 i)], [.struct [x, y]]⟩, R := fun _ i => i ≤ code.length ∧ (code.take i).all (insOk n code.length) = true, μ := fun i => code.length - i }
theorem M29_I {x y n code z} (i : Nat) : (M29 x y n code z).I i = ⟨[(1, .ptr 0 0), (32, z), (33, .int .i64 code.length), (34, .int .i64 i)], [.struct [x, y]]⟩ := rfl
theorem s29 : Sound Tryz.prog 29 C29 := by
 refine sound_of_okF ok29 (.cons s80 (callable_of_okF ok80) (.cons s89 (callable_of_okF ok89) (.cons s90 (callable_of_okF ok90) .nil))) ?_
 intro args hp K h
 unfold C29 at h
 split at h
 ·rename_i x y
  have hmx := maxLen_val
  rcases h with ⟨rfl, ⟨rfl, h⟩ | ⟨q, code, rfl, h⟩⟩ | ⟨p, names, rfl, ⟨rfl, h⟩ | ⟨q, code, rfl, h⟩⟩
  ·refine ⟨by simp, [(1, L29 .nils .nils [] .nils), (2, M29 .nils .nils 0 [] .nils)], ?_⟩
   simp (maxSteps:=9^9) only [a29, r29, go_sem, Int.reduceLT, Nat.reduceSub, Nat.reduceBEq]
   have hf : ¬ ((([] : List ByteArray).length ≤ 8 ∧ ([] : List EvT.den).length ≤ 200) ∧ ([] : List ByteArray).all keyOk = true ∧ ([] : List EvT.den).all (insOk ([] : List ByteArray).length ([] : List EvT.den).length) = true) → K (.bool false) [] := fun hh => by rw [← formP_iff, Bool.not_eq_true] at hh; rw [hh] at h; exact h
   have c1 : ¬ (8 : Int) < (0 : Nat) := by omega
   have c2 : ¬ (200 : Int) < (0 : Nat) := by omega
   refine loop_intro (A := L29 .nils .nils [] .nils) (0 : Nat) ?_ ⟨Nat.zero_le _, rfl⟩ ?_
   ·simp (maxSteps:=9^9) only [L29_I, go_sem, Nat.reduceBEq]
    rfl
   ·intro (i : Nat) (hi : i ≤ ([] : List ByteArray).length ∧ (([] : List ByteArray).take i).all keyOk = true)
    simp (maxSteps:=9^9) only [L29_I, go_sem, Nat.reduceSub, Nat.reduceBEq]
    rintro c rfl
    refine sw_intro (fun hc => ?_) (fun hc => ?_) <;> simp only [decide_eq_true_eq, decide_eq_false_iff_not] at hc
    ·exact absurd hc (by omega)
    ·have e : i = ([] : List ByteArray).length := by have := hi.1; simp only [List.length_nil] at this ⊢; omega
     have hk := hi.2
     clear e
     refine loop_intro (A := M29 .nils .nils 0 [] .nils) (0 : Nat) ?_ ⟨Nat.zero_le _, rfl⟩ ?_
     ·simp (maxSteps:=9^9) only [M29_I, go_sem, Nat.reduceBEq]
      rfl
     ·intro (j : Nat) (hj : j ≤ ([] : List EvT.den).length ∧ (([] : List EvT.den).take j).all (insOk 0 ([] : List EvT.den).length) = true)
      simp (maxSteps:=9^9) only [M29_I, go_sem, Nat.reduceBEq]
      rintro c rfl
      refine sw_intro (fun hd => ?_) (fun hd => ?_) <;> simp only [decide_eq_true_eq, decide_eq_false_iff_not] at hd
      ·exact absurd hd (by omega)
      ·have e2 : ([] : List EvT.den).length ≤ j := by simp only [List.length_nil]; omega
       rw [List.take_of_length_le e2] at hj
       rw [show formP [] [] = true from formP_iff.2 ⟨⟨by simp only [List.length_nil]; omega, by simp only [List.length_nil]; omega⟩, by simpa using hk, hj.2⟩] at h
       exact h
  ·refine ⟨by simp, [(1, L29 .nils (.sl q 16 EvT code) [] .nils), (2, M29 .nils (.sl q 16 EvT code) 0 code (.sl q 16 EvT code))], ?_⟩
   simp (maxSteps:=9^9) only [a29, r29, go_sem, Int.reduceLT, Nat.reduceSub, Nat.reduceBEq]
   have hf : ¬ ((([] : List ByteArray).length ≤ 8 ∧ (code : List EvT.den).length ≤ 200) ∧ ([] : List ByteArray).all keyOk = true ∧ (code : List EvT.den).all (insOk ([] : List ByteArray).length (code : List EvT.den).length) = true) → K (.bool false) [] := fun hh => by rw [← formP_iff, Bool.not_eq_true] at hh; rw [hh] at h; exact h
   have c1 : ¬ (8 : Int) < (0 : Nat) := by omega
   rintro hc1 hc2 m rfl c rfl
   refine sw_intro (fun c2 => ?_) (fun c2 => ?_) <;> simp only [decide_eq_true_eq, decide_eq_false_iff_not] at c2
   ·exact hf (fun hh => by have := hh.1.2; omega)
   refine loop_intro (A := L29 .nils (.sl q 16 EvT code) [] .nils) (0 : Nat) ?_ ⟨Nat.zero_le _, rfl⟩ ?_
   ·simp (maxSteps:=9^9) only [L29_I, go_sem, Nat.reduceBEq]
    rfl
   ·intro (i : Nat) (hi : i ≤ ([] : List ByteArray).length ∧ (([] : List ByteArray).take i).all keyOk = true)
    simp (maxSteps:=9^9) only [L29_I, go_sem, Nat.reduceSub, Nat.reduceBEq]
    rintro c rfl
    refine sw_intro (fun hc => ?_) (fun hc => ?_) <;> simp only [decide_eq_true_eq, decide_eq_false_iff_not] at hc
    ·exact absurd hc (by omega)
    ·have e : i = ([] : List ByteArray).length := by have := hi.1; simp only [List.length_nil] at this ⊢; omega
     have hk := hi.2
     clear e
     rintro _ _ m rfl
     refine loop_intro (A := M29 .nils (.sl q 16 EvT code) 0 code (.sl q 16 EvT code)) (0 : Nat) ?_ ⟨Nat.zero_le _, rfl⟩ ?_
     ·simp (maxSteps:=9^9) only [M29_I, go_sem, Nat.reduceBEq]
      rfl
     ·intro (j : Nat) (hj : j ≤ (code : List EvT.den).length ∧ ((code : List EvT.den).take j).all (insOk 0 (code : List EvT.den).length) = true)
      simp (maxSteps:=9^9) only [M29_I, C89, C90, go_sem, Nat.reduceLeDiff, Nat.reduceSub, Nat.reduceBEq, Nat.reduceAdd]
      rintro c rfl
      refine sw_intro (fun hd => ?_) (fun hd => ?_) <;> simp only [decide_eq_true_eq, decide_eq_false_iff_not] at hd
      ·refine nd_intro hd ?_
       have hb : ¬ insOk 0 code.length (elt EvT code j) = true → K (.bool false) [] := fun hn => hf (fun hh => hn (List.all_eq_true.1 hh.2.2 _ (List.mem_of_getElem? (elt_get hd))))
       have hnx : insOk 0 code.length (elt EvT code j) = true → ∀ m, m = IntKind.i64.wrap ((j : Int) + 1) → lpE (M29 .nils (.sl q 16 EvT code) 0 code (.sl q 16 EvT code)) 0 [1, 32, 33, 34] (0 : Nat) j { fr := [(1, .ptr 0 0), (32, (.sl q 16 EvT code)), (33, .int .i64 code.length), (34, .int .i64 m)], hp := [.struct [.nils, (.sl q 16 EvT code)], .struct [.int .i64 (elt EvT code j).fst, .int .i64 (elt EvT code j).snd]] } := fun hk2 m hm => by
        rw [w64 (by omega)] at hm
        subst hm
        refine lpE_intro (A := M29 .nils (.sl q 16 EvT code) 0 code (.sl q 16 EvT code)) (j + 1) (by simp (maxSteps:=9^9) only [go_sem, Nat.reduceBEq]; rfl) ⟨by omega, ?_⟩ (by show code.length - (j + 1) < code.length - j; omega)
        have e3 := take_elt (t := EvT) hd
        show List.all (List.take (j + 1) (code : List EvT.den)) _ = true
        rw [← e3, List.all_append, hj.2]
        simpa using hk2
       simp only [insOk, Bool.and_eq_true, Bool.or_eq_true, decide_eq_true_eq] at hb hnx
       refine ⟨fun ho => hb (fun hh => ho hh.1), fun ho => ?_⟩
       rintro c rfl
       refine sw_intro (fun he => ?_) (fun he => ?_) <;> simp only [Bool.not_eq_true', Bool.not_eq_false', decide_eq_true_eq, decide_eq_false_iff_not] at he
       ·rintro c rfl
        refine sw_intro (fun hl => ?_) (fun hl => ?_) <;> simp only [decide_eq_true_eq, decide_eq_false_iff_not] at hl
        ·exact hb (fun hh => hh.2.elim he (fun h2 => absurd h2.1 (Int.not_le.2 hl)))
        refine ⟨by omega, ?_⟩
        rintro c rfl
        refine sw_intro (fun hg => ?_) (fun hg => ?_) <;> simp only [decide_eq_true_eq, decide_eq_false_iff_not] at hg
        ·exact hb (fun hh => hh.2.elim he (fun h2 => absurd h2.2 (Int.not_lt.2 hg)))
        intro _ _ m hm
        exact hnx ⟨ho, .inr ⟨Int.not_lt.1 hl, Int.not_le.1 hg⟩⟩ m hm
       ·intro _ _ m hm
        exact hnx ⟨ho, .inl he⟩ m hm
      ·have e2 : (code : List EvT.den).length ≤ j := by  omega
       rw [List.take_of_length_le e2] at hj
       rw [show formP [] code = true from formP_iff.2 ⟨⟨by simp only [List.length_nil]; omega, by  omega⟩, by simpa using hk, hj.2⟩] at h
       exact h
  ·refine ⟨by simp, [(1, L29 (.sl p 16 .str names) .nils names (.sl p 16 .str names)), (2, M29 (.sl p 16 .str names) .nils names.length [] .nils)], ?_⟩
   simp (maxSteps:=9^9) only [a29, r29, go_sem, Int.reduceLT, Nat.reduceSub, Nat.reduceBEq]
   have hf : ¬ (((names : List ByteArray).length ≤ 8 ∧ ([] : List EvT.den).length ≤ 200) ∧ (names : List ByteArray).all keyOk = true ∧ ([] : List EvT.den).all (insOk (names : List ByteArray).length ([] : List EvT.den).length) = true) → K (.bool false) [] := fun hh => by rw [← formP_iff, Bool.not_eq_true] at hh; rw [hh] at h; exact h
   rintro hn1 hn2 m rfl c rfl
   refine sw_intro (fun c1 => ?_) (fun c1 => ?_) <;> simp only [decide_eq_true_eq, decide_eq_false_iff_not] at c1
   ·exact hf (fun hh => by have := hh.1.1; omega)
   have c2 : ¬ (200 : Int) < (0 : Nat) := by omega
   rintro _ _ m rfl
   refine loop_intro (A := L29 (.sl p 16 .str names) .nils names (.sl p 16 .str names)) (0 : Nat) ?_ ⟨Nat.zero_le _, rfl⟩ ?_
   ·simp (maxSteps:=9^9) only [L29_I, go_sem, Nat.reduceBEq]
    rfl
   ·intro (i : Nat) (hi : i ≤ (names : List ByteArray).length ∧ ((names : List ByteArray).take i).all keyOk = true)
    simp (maxSteps:=9^9) only [L29_I, C80, go_sem, Nat.reduceSub, Nat.reduceBEq]
    rintro c rfl
    refine sw_intro (fun hc => ?_) (fun hc => ?_) <;> simp only [decide_eq_true_eq, decide_eq_false_iff_not] at hc
    ·refine nd_intro hc (sw_intro (fun hk => ?_) (fun hk => ?_))
     case refine_2 =>
      refine hf (fun hh => ?_)
      have hm := List.all_eq_true.1 hh.2.1 (elt .str names i) (List.mem_of_getElem? (elt_get hc))
      rw [hm] at hk
      simp at hk
     rintro _ _ m hm
     rw [w64 (by omega)] at hm
     subst hm
     refine lpE_intro (A := L29 (.sl p 16 .str names) .nils names (.sl p 16 .str names)) (i + 1) (by simp (maxSteps:=9^9) only [go_sem, Nat.reduceBEq]; rfl) ⟨by omega, ?_⟩ (by show (names : List ByteArray).length - (i + 1) < (names : List ByteArray).length - i; omega)
     have e3 := take_elt (t := .str) hc
     show List.all (List.take (i + 1) (names : List ByteArray)) _ = true
     rw [← e3, List.all_append, hi.2]
     simpa using hk
    ·have e : i = (names : List ByteArray).length := by have := hi.1;  omega
     have hk := hi.2
     subst e; simp only [List.take_length] at hk
     refine loop_intro (A := M29 (.sl p 16 .str names) .nils names.length [] .nils) (0 : Nat) ?_ ⟨Nat.zero_le _, rfl⟩ ?_
     ·simp (maxSteps:=9^9) only [M29_I, go_sem, Nat.reduceBEq]
      rfl
     ·intro (j : Nat) (hj : j ≤ ([] : List EvT.den).length ∧ (([] : List EvT.den).take j).all (insOk names.length ([] : List EvT.den).length) = true)
      simp (maxSteps:=9^9) only [M29_I, go_sem, Nat.reduceBEq]
      rintro c rfl
      refine sw_intro (fun hd => ?_) (fun hd => ?_) <;> simp only [decide_eq_true_eq, decide_eq_false_iff_not] at hd
      ·exact absurd hd (by omega)
      ·have e2 : ([] : List EvT.den).length ≤ j := by simp only [List.length_nil]; omega
       rw [List.take_of_length_le e2] at hj
       rw [show formP names [] = true from formP_iff.2 ⟨⟨by  omega, by simp only [List.length_nil]; omega⟩, by simpa using hk, hj.2⟩] at h
       exact h
  ·refine ⟨by simp, [(1, L29 (.sl p 16 .str names) (.sl q 16 EvT code) names (.sl p 16 .str names)), (2, M29 (.sl p 16 .str names) (.sl q 16 EvT code) names.length code (.sl q 16 EvT code))], ?_⟩
   simp (maxSteps:=9^9) only [a29, r29, go_sem, Nat.reduceSub, Nat.reduceBEq]
   have hf : ¬ (((names : List ByteArray).length ≤ 8 ∧ (code : List EvT.den).length ≤ 200) ∧ (names : List ByteArray).all keyOk = true ∧ (code : List EvT.den).all (insOk (names : List ByteArray).length (code : List EvT.den).length) = true) → K (.bool false) [] := fun hh => by rw [← formP_iff, Bool.not_eq_true] at hh; rw [hh] at h; exact h
   rintro hn1 hn2 m rfl c rfl
   refine sw_intro (fun c1 => ?_) (fun c1 => ?_) <;> simp only [decide_eq_true_eq, decide_eq_false_iff_not] at c1
   ·exact hf (fun hh => by have := hh.1.1; omega)
   rintro hc1 hc2 m rfl c rfl
   refine sw_intro (fun c2 => ?_) (fun c2 => ?_) <;> simp only [decide_eq_true_eq, decide_eq_false_iff_not] at c2
   ·exact hf (fun hh => by have := hh.1.2; omega)
   rintro _ _ m rfl
   refine loop_intro (A := L29 (.sl p 16 .str names) (.sl q 16 EvT code) names (.sl p 16 .str names)) (0 : Nat) ?_ ⟨Nat.zero_le _, rfl⟩ ?_
   ·simp (maxSteps:=9^9) only [L29_I, go_sem, Nat.reduceBEq]
    rfl
   ·intro (i : Nat) (hi : i ≤ (names : List ByteArray).length ∧ ((names : List ByteArray).take i).all keyOk = true)
    simp (maxSteps:=9^9) only [L29_I, C80, go_sem, Nat.reduceSub, Nat.reduceBEq]
    rintro c rfl
    refine sw_intro (fun hc => ?_) (fun hc => ?_) <;> simp only [decide_eq_true_eq, decide_eq_false_iff_not] at hc
    ·refine nd_intro hc (sw_intro (fun hk => ?_) (fun hk => ?_))
     case refine_2 =>
      refine hf (fun hh => ?_)
      have hm := List.all_eq_true.1 hh.2.1 (elt .str names i) (List.mem_of_getElem? (elt_get hc))
      rw [hm] at hk
      simp at hk
     rintro _ _ m hm
     rw [w64 (by omega)] at hm
     subst hm
     refine lpE_intro (A := L29 (.sl p 16 .str names) (.sl q 16 EvT code) names (.sl p 16 .str names)) (i + 1) (by simp (maxSteps:=9^9) only [go_sem, Nat.reduceBEq]; rfl) ⟨by omega, ?_⟩ (by show (names : List ByteArray).length - (i + 1) < (names : List ByteArray).length - i; omega)
     have e3 := take_elt (t := .str) hc
     show List.all (List.take (i + 1) (names : List ByteArray)) _ = true
     rw [← e3, List.all_append, hi.2]
     simpa using hk
    ·have e : i = (names : List ByteArray).length := by have := hi.1;  omega
     have hk := hi.2
     subst e; simp only [List.take_length] at hk
     rintro _ _ m rfl
     refine loop_intro (A := M29 (.sl p 16 .str names) (.sl q 16 EvT code) names.length code (.sl q 16 EvT code)) (0 : Nat) ?_ ⟨Nat.zero_le _, rfl⟩ ?_
     ·simp (maxSteps:=9^9) only [M29_I, go_sem, Nat.reduceBEq]
      rfl
     ·intro (j : Nat) (hj : j ≤ (code : List EvT.den).length ∧ ((code : List EvT.den).take j).all (insOk names.length (code : List EvT.den).length) = true)
      simp (maxSteps:=9^9) only [M29_I, C89, C90, go_sem, Nat.reduceLeDiff, Nat.reduceSub, Nat.reduceBEq, Nat.reduceAdd]
      rintro c rfl
      refine sw_intro (fun hd => ?_) (fun hd => ?_) <;> simp only [decide_eq_true_eq, decide_eq_false_iff_not] at hd
      ·refine nd_intro hd ?_
       have hb : ¬ insOk names.length code.length (elt EvT code j) = true → K (.bool false) [] := fun hn => hf (fun hh => hn (List.all_eq_true.1 hh.2.2 _ (List.mem_of_getElem? (elt_get hd))))
       have hnx : insOk names.length code.length (elt EvT code j) = true → ∀ m, m = IntKind.i64.wrap ((j : Int) + 1) → lpE (M29 (.sl p 16 .str names) (.sl q 16 EvT code) names.length code (.sl q 16 EvT code)) 0 [1, 32, 33, 34] (0 : Nat) j { fr := [(1, .ptr 0 0), (32, (.sl q 16 EvT code)), (33, .int .i64 code.length), (34, .int .i64 m)], hp := [.struct [(.sl p 16 .str names), (.sl q 16 EvT code)], .struct [.int .i64 (elt EvT code j).fst, .int .i64 (elt EvT code j).snd]] } := fun hk2 m hm => by
        rw [w64 (by omega)] at hm
        subst hm
        refine lpE_intro (A := M29 (.sl p 16 .str names) (.sl q 16 EvT code) names.length code (.sl q 16 EvT code)) (j + 1) (by simp (maxSteps:=9^9) only [go_sem, Nat.reduceBEq]; rfl) ⟨by omega, ?_⟩ (by show code.length - (j + 1) < code.length - j; omega)
        have e3 := take_elt (t := EvT) hd
        show List.all (List.take (j + 1) (code : List EvT.den)) _ = true
        rw [← e3, List.all_append, hj.2]
        simpa using hk2
       simp only [insOk, Bool.and_eq_true, Bool.or_eq_true, decide_eq_true_eq] at hb hnx
       refine ⟨fun ho => hb (fun hh => ho hh.1), fun ho => ?_⟩
       rintro c rfl
       refine sw_intro (fun he => ?_) (fun he => ?_) <;> simp only [Bool.not_eq_true', Bool.not_eq_false', decide_eq_true_eq, decide_eq_false_iff_not] at he
       ·rintro c rfl
        refine sw_intro (fun hl => ?_) (fun hl => ?_) <;> simp only [decide_eq_true_eq, decide_eq_false_iff_not] at hl
        ·exact hb (fun hh => hh.2.elim he (fun h2 => absurd h2.1 (Int.not_le.2 hl)))
        refine ⟨by omega, by omega, ?_⟩
        rintro c rfl
        refine sw_intro (fun hg => ?_) (fun hg => ?_) <;> simp only [decide_eq_true_eq, decide_eq_false_iff_not] at hg
        ·exact hb (fun hh => hh.2.elim he (fun h2 => absurd h2.2 (Int.not_lt.2 hg)))
        intro _ _ m hm
        exact hnx ⟨ho, .inr ⟨Int.not_lt.1 hl, Int.not_le.1 hg⟩⟩ m hm
       ·intro _ _ m hm
        exact hnx ⟨ho, .inl he⟩ m hm
      ·have e2 : (code : List EvT.den).length ≤ j := by  omega
       rw [List.take_of_length_le e2] at hj
       rw [show formP names code = true from formP_iff.2 ⟨⟨by  omega, by  omega⟩, by simpa using hk, hj.2⟩] at h
       exact h
 ·exact h.elim
end Go.V
namespace Go.V
open Go.Proofs
set_option maxRecDepth 100000
set_option maxHeartbeats 4000000
set_option linter.unusedSimpArgs false
set_option linter.unnecessarySimpa false
set_option linter.unusedVariables false
/-! ### what a step keeps -/
structure KeepM (M N : Mc) : Prop where
 names : N.names = M.names
 code : N.code = M.code
 args : N.args = M.args
 steps : N.steps = M.steps
 pc : N.pc = M.pc
 st : N.st = M.st
 ev : N.ev = M.ev
 sent : N.sent = M.sent
 tim : N.tim = M.tim
 stack : M.stack.length ≤ 16 → N.stack.length ≤ 16
theorem KeepM.refl (M : Mc) : KeepM M M := ⟨rfl, rfl, rfl, rfl, rfl, rfl, rfl, rfl, rfl, id⟩
theorem KeepM.trans {M N P : Mc} (a : KeepM M N) (b : KeepM N P) : KeepM M P := ⟨b.names.trans a.names, b.code.trans a.code, b.args.trans a.args, b.steps.trans a.steps, b.pc.trans a.pc, b.st.trans a.st, b.ev.trans a.ev, b.sent.trans a.sent, b.tim.trans a.tim, fun h => b.stack (a.stack h)⟩
theorem pushM_k (M : Mc) (xs : List Int) : KeepM M (pushM M xs) := by
 unfold pushM
 split
 ·exact .refl M
 ·split
  ·exact ⟨rfl, rfl, rfl, rfl, rfl, rfl, rfl, rfl, rfl, id⟩
  ·rename_i h
   exact ⟨rfl, rfl, rfl, rfl, rfl, rfl, rfl, rfl, rfl, fun _ => by simp only [List.length_append]; omega⟩
theorem popM_k (M : Mc) : KeepM M (popM M).2 := by
 refine ⟨?_, ?_, ?_, ?_, ?_, ?_, ?_, ?_, ?_, popM_stack⟩ <;> (unfold popM; split <;> (try rfl); split <;> rfl)
theorem twoM_k (M : Mc) : KeepM M (twoM M).2 := by
 unfold twoM
 exact (popM_k M).trans (popM_k _)
theorem refM_k (M : Mc) (b : Bool) : KeepM M (refM M b) := by
 refine ⟨?_, ?_, ?_, ?_, ?_, ?_, ?_, ?_, ?_, fun h => ?_⟩ <;> (unfold refM; split <;> first | rfl | exact h)
structure StepK (M N : Mc) (n : Nat) (arg : Int) : Prop where
 names : N.names = M.names
 code : N.code = M.code
 args : N.args = M.args
 steps : N.steps = M.steps
 pc : N.pc = M.pc ∨ (N.pc = arg ∧ (n = 15 ∨ n = 16))
 st : N.st.length = M.st.length
 ev : N.ev.length ≤ M.ev.length + 1
 sent : N.sent.length ≤ M.sent.length + 1
 tim : N.tim.length ≤ M.tim.length + 1
 stack : M.stack.length ≤ 16 → N.stack.length ≤ 16
theorem KeepM.step {M N : Mc} {n : Nat} {arg : Int} (h : KeepM M N) : StepK M N n arg :=
 ⟨h.names, h.code, h.args, h.steps, .inl h.pc, by rw [h.st], by rw [h.ev]; omega, by rw [h.sent]; omega, by rw [h.tim]; omega, h.stack⟩
theorem sendM_k {M T : Mc} {to : ByteArray} {x y : Int} {n : Nat} {arg : Int} (h : KeepM M T) : StepK M (sendM T to x y) n arg := by
 unfold sendM
 split
 ·exact h.step
 have hr := h.trans (refM_k T (decide (4 ≤ (T.sent.length : Int))))
 split
 ·exact ⟨hr.names, hr.code, hr.args, hr.steps, .inl hr.pc, by show _ = _; rw [hr.st], by show List.length (refM T _).ev ≤ _; rw [hr.ev]; omega, by simp only [List.length_append, List.length_cons, List.length_nil]; rw [hr.sent]; omega, by show List.length (refM T _).tim ≤ _; rw [hr.tim]; omega, hr.stack⟩
 ·exact hr.step
theorem remM_k {M T : Mc} {nm : ByteArray} {x y : Int} {b : Bool} {n : Nat} {arg : Int} (h : KeepM M T) : StepK M (remM T nm x y b) n arg := by
 unfold remM
 have hr := h.trans (refM_k T b)
 split
 ·exact ⟨hr.names, hr.code, hr.args, hr.steps, .inl hr.pc, by show _ = _; rw [hr.st], by show List.length (refM T _).ev ≤ _; rw [hr.ev]; omega, by show List.length (refM T _).sent ≤ _; rw [hr.sent]; omega, by simp only [List.length_append, List.length_cons, List.length_nil]; rw [hr.tim]; omega, hr.stack⟩
 ·exact hr.step
theorem stepN_k (M : Mc) (n : Nat) (arg : Int) : StepK M (stepN M n arg) n arg := by
 unfold stepN
 split
 ·exact ⟨rfl, rfl, rfl, rfl, .inl rfl, rfl, by simp, by simp, by simp, id⟩
 ·exact (pushM_k _ _).step
 ·exact (pushM_k _ _).step
 ·have h := popM_k M
  split
  ·exact ⟨h.names, h.code, h.args, h.steps, .inl h.pc, by show (List.set _ _ _).length = _; rw [List.length_set, h.st], by simp only [List.length_append, List.length_cons, List.length_nil]; rw [h.ev]; omega, by show List.length (popM M).2.sent ≤ _; rw [h.sent]; omega, by show List.length (popM M).2.tim ≤ _; rw [h.tim]; omega, h.stack⟩
  ·exact h.step
 ·split <;> exact (pushM_k _ _).step
 ·exact (pushM_k _ _).step
 ·exact ((twoM_k M).trans (pushM_k _ _)).step
 ·exact ((twoM_k M).trans (pushM_k _ _)).step
 ·exact ((twoM_k M).trans (pushM_k _ _)).step
 ·exact ((twoM_k M).trans (pushM_k _ _)).step
 ·exact ((twoM_k M).trans (pushM_k _ _)).step
 ·exact ((popM_k M).trans (pushM_k _ _)).step
 ·exact ((popM_k M).trans (pushM_k _ _)).step
 ·exact (popM_k M).step
 ·exact ((twoM_k M).trans (pushM_k _ _)).step
 ·exact ⟨rfl, rfl, rfl, rfl, .inr ⟨rfl, .inl rfl⟩, rfl, by simp, by simp, by simp, id⟩
 ·have h := popM_k M
  split
  ·exact ⟨h.names, h.code, h.args, h.steps, .inr ⟨rfl, .inr rfl⟩, by show List.length (popM M).2.st = _; rw [h.st], by show List.length (popM M).2.ev ≤ _; rw [h.ev]; omega, by show List.length (popM M).2.sent ≤ _; rw [h.sent]; omega, by show List.length (popM M).2.tim ≤ _; rw [h.tim]; omega, h.stack⟩
  ·exact h.step
 ·exact (refM_k _ _).step
 ·exact (pushM_k _ _).step
 ·exact (pushM_k _ _).step
 ·unfold outM
  split
  ·exact sendM_k (twoM_k M)
  split
  ·exact sendM_k (twoM_k M)
  split
  ·exact remM_k (twoM_k M)
  split
  ·exact ⟨rfl, rfl, rfl, rfl, .inl rfl, rfl, by simp, by simp, by simp, id⟩
  ·exact (KeepM.refl M).step
end Go.V
