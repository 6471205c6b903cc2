/- A part of the proof layer, or functions of the given program in it: contracts and their proofs. -/
import Derived.Test.YtbcmjkfdeikkhaaGreatMA80
namespace Go.V
open Go.Proofs
set_option maxRecDepth 100000
set_option maxHeartbeats 16000000
set_option linter.unusedSimpArgs false
set_option linter.unnecessarySimpa false
set_option linter.unusedVariables false
theorem Mc.norm {M : Mc} (hf : M.failed = 0) (hd : M.done = false) : M = ⟨M.names, M.code, M.f, M.s, M.k, M.args, M.now, M.pc, M.stack, M.st, M.ev, M.sent, M.tim, M.steps, 0, false⟩ := by
 obtain ⟨a, b, c, d, e, f, g, h, i, j, k, l, m, n, o, p⟩ := M
 simp only at hf hd
 subst hf
 subst hd
 rfl
theorem outF_done {M : Mc} {n : Nat} {arg x y : Int} (hf : M.failed = 0) : (outF M n arg x y).done = M.done := by
 have send : ∀ to, (sendM M to x y).done = M.done := fun to => by
  by_cases h1 : to = ByteArray.empty
  ·rw [sendM_e h1]
  ·by_cases h2 : 4 ≤ (M.sent.length : Int)
   ·rw [sendM_r hf h1 h2]
   ·rw [sendM_s hf h1 h2]
 unfold outF
 split
 ·exact send _
 ·exact send _
 ·cases hb : badR M x y
  ·rw [remM_s hf]
  ·rw [remM_r hf]
 ·rfl
def C101 : Contract := fun args hp K => match args with
 | [.ptr 0 0] => onR hp fun M => OkM M ∧ 0 ≤ M.now ∧ (0 ≤ M.pc ∧ M.pc < (M.code.length : Int) ∧ M.code.length ≤ 1000) ∧
   (0 ≤ (elt EvT M.code M.pc.toNat).1 ∧ (elt EvT M.code M.pc.toNat).1 < 24) ∧ argOk M (elt EvT M.code M.pc.toNat).1.toNat (elt EvT M.code M.pc.toNat).2 ∧
   (∀ N, N = stepN { M with pc := M.pc + 1 } (elt EvT M.code M.pc.toNat).1.toNat (elt EvT M.code M.pc.toNat).2 →
    (N.failed = 0 → K (.tup [.bool (!N.done), .int .i64 0]) (rcH true N)) ∧ (N.failed ≠ 0 → ∀ N', N'.steps = M.steps → K (.tup [.bool false, .int .i64 N.failed]) (rcH true N')))
 | _ => False
theorem s101 : Sound Tryz.prog 101 C101 := by
 refine sound_of_okF ok101 (.cons s125 (callable_of_okF ok125) (.cons s126 (callable_of_okF ok126) (.cons s127 (callable_of_okF ok127) (.cons s128 (callable_of_okF ok128) (.cons s129 (callable_of_okF ok129) .nil))))) ?_
 intro args hp K h
 unfold C101 at h
 split at h
 ·obtain ⟨M, hf, hd, rfl, hM, hnow, hpc, ho, ha, h⟩ := h
  refine ⟨by simp, [], ?_⟩
  have hmx := maxLen_val
  obtain ⟨op, arg, hel⟩ : ∃ (op arg : Int), elt EvT M.code M.pc.toNat = (op, arg) := ⟨_, _, rfl⟩
  rw [hel] at ho ha h
  simp only at ho ha h
  replace ho : 0 ≤ op ∧ op < 24 := ho
  obtain ⟨h1, h2⟩ := h _ rfl
  have hsh := step_short (M := { M with pc := M.pc + 1 }) (arg := arg) ho hf hM.stack
  have hl := hM.stack
  have hgo : ∀ n : Int, (stepN { M with pc := M.pc + 1 } op.toNat arg).failed = n → n ≠ 0 → ∀ N' : Mc, N'.steps = M.steps → K (.tup [.bool false, .int .i64 n]) (rcH true N') := fun n e1 e2 => by
   have := h2 (by rw [e1]; exact e2)
   rw [e1] at this
   exact this
  have h9 : ∀ (N : Mc) (d : Bool), stepN { M with pc := M.pc + 1 } op.toNat arg = N → N.failed = 0 → N.done = d → K (.tup [.bool (!d), .int .i64 0]) (rcH true N) := fun N d e1 e2 e3 => by
   subst e1
   subst e3
   exact h1 e2
  clear h2 h h1
  have hop : op = 0 ∨ op = 1 ∨ op = 2 ∨ op = 3 ∨ op = 4 ∨ op = 5 ∨ op = 6 ∨ op = 7 ∨ op = 8 ∨ op = 9 ∨ op = 10 ∨ op = 11 ∨ op = 12 ∨ op = 13 ∨ op = 14 ∨ op = 15 ∨ op = 16 ∨ op = 17 ∨ op = 18 ∨ op = 19 ∨ op = 20 ∨ op = 21 ∨ op = 22 ∨ op = 23 := by omega
  clear ho
  unfold rcH at h9 hgo ⊢
  obtain ⟨a1, a2, a3⟩ := ha
  rcases hop with rfl | rfl | rfl | rfl | rfl | rfl | rfl | rfl | rfl | rfl | rfl | rfl | rfl | rfl | rfl | rfl | rfl | rfl | rfl | rfl | rfl | rfl | rfl | rfl
  ·have he : effI 0 = (0, 0) := rfl
   simp (maxSteps:=9^9) only [a101, r101, hel, he, C125, go_sem, Int.reduceLT, Int.reduceLE, Int.reduceEq, Nat.reduceLeDiff, Nat.reduceSub, Nat.reduceMul, Nat.reduceBEq, Nat.reduceAdd]
   refine nd_intro ⟨hpc.1, hpc.2.1⟩ (nd_intro (by omega) ⟨⟨⟨hpc.1, hpc.2.1⟩, by omega⟩, ?_⟩)
   rintro _ _ m hm
   rw [w64 (by omega)] at hm
   subst m
   rintro _ _ m1 rfl c rfl
   refine sw_intro (fun c1 => hgo 10 (hsh (.inl (of_decide_eq_true c1))) ten { M with pc := M.pc + 1 } rfl) (fun c1 => ?_)
   rintro _ _ m2 rfl _ _ m3 hm3
   rw [w64 (by omega)] at hm3
   subst m3
   rintro _ _ m4 hm4
   rw [w64 (by omega)] at hm4
   subst m4
   rintro c rfl
   refine sw_intro (fun c2 => hgo 10 (hsh (.inr (of_decide_eq_true c2))) ten { M with pc := M.pc + 1 } rfl) (fun c2 => ?_)
   have k1 : ¬ (M.stack.length : Int) < 0 := of_decide_eq_false c1
   have k2 : ¬ 16 < (M.stack.length : Int) - 0 + 0 := of_decide_eq_false c2
   exact h9 { M with pc := M.pc + 1, done := true } true rfl hf rfl
  ·have he : effI 1 = (0, 1) := rfl
   simp (maxSteps:=9^9) only [a101, r101, hel, he, C125, C127, C129, rcH, go_sem, Int.reduceLT, Int.reduceLE, Int.reduceEq, Int.reduceToNat, Nat.reduceLeDiff, Nat.reduceSub, Nat.reduceMul, Nat.reduceLT, Nat.reduceBEq, Nat.reduceAdd]
   refine nd_intro ⟨hpc.1, hpc.2.1⟩ (nd_intro (by omega) ⟨⟨⟨hpc.1, hpc.2.1⟩, by omega⟩, ?_⟩)
   rintro _ _ m hm
   rw [w64 (by omega)] at hm
   subst m
   rintro _ _ m1 rfl c rfl
   refine sw_intro (fun c1 => hgo 10 (hsh (.inl (of_decide_eq_true c1))) ten { M with pc := M.pc + 1 } rfl) (fun c1 => ?_)
   rintro _ _ m2 rfl _ _ m3 hm3
   rw [w64 (by omega)] at hm3
   subst m3
   rintro _ _ m4 hm4
   rw [w64 (by omega)] at hm4
   subst m4
   rintro c rfl
   refine sw_intro (fun c2 => hgo 10 (hsh (.inr (of_decide_eq_true c2))) ten { M with pc := M.pc + 1 } rfl) (fun c2 => ?_)
   have k1 : ¬ (M.stack.length : Int) < 0 := of_decide_eq_false c1
   have k2 : ¬ 16 < (M.stack.length : Int) - 0 + 1 := of_decide_eq_false c2
   have e : stepN { M with pc := M.pc + 1 } (Int.toNat 1) arg = { M with pc := M.pc + 1, stack := M.stack ++ [arg] } := push1_ok (M := { M with pc := M.pc + 1 }) hf (by show M.stack.length + 1 ≤ 16; omega)
   exact ⟨hM.st8, ⟨a1, a2, a3⟩, by omega, h9 _ false e hf hd⟩
  ·have he : effI 2 = (0, 1) := rfl
   simp (maxSteps:=9^9) only [a101, r101, hel, he, C125, C127, C129, rcH, go_sem, Int.reduceLT, Int.reduceLE, Int.reduceEq, Int.reduceToNat, Nat.reduceLeDiff, Nat.reduceSub, Nat.reduceMul, Nat.reduceLT, Nat.reduceBEq, Nat.reduceAdd]
   refine nd_intro ⟨hpc.1, hpc.2.1⟩ (nd_intro (by omega) ⟨⟨⟨hpc.1, hpc.2.1⟩, by omega⟩, ?_⟩)
   rintro _ _ m hm
   rw [w64 (by omega)] at hm
   subst m
   rintro _ _ m1 rfl c rfl
   refine sw_intro (fun c1 => hgo 10 (hsh (.inl (of_decide_eq_true c1))) ten { M with pc := M.pc + 1 } rfl) (fun c1 => ?_)
   rintro _ _ m2 rfl _ _ m3 hm3
   rw [w64 (by omega)] at hm3
   subst m3
   rintro _ _ m4 hm4
   rw [w64 (by omega)] at hm4
   subst m4
   rintro c rfl
   refine sw_intro (fun c2 => hgo 10 (hsh (.inr (of_decide_eq_true c2))) ten { M with pc := M.pc + 1 } rfl) (fun c2 => ?_)
   have k1 : ¬ (M.stack.length : Int) < 0 := of_decide_eq_false c1
   have k2 : ¬ 16 < (M.stack.length : Int) - 0 + 1 := of_decide_eq_false c2
   have e : stepN { M with pc := M.pc + 1 } (Int.toNat 2) arg = { M with pc := M.pc + 1, stack := M.stack ++ [elt (.int .i64) M.st arg.toNat] } := push1_ok (M := { M with pc := M.pc + 1 }) hf (by show M.stack.length + 1 ≤ 16; omega)
   exact ⟨hM.st8, ⟨a1, a2, a3⟩, by omega, h9 _ false e hf hd⟩
  ·have he : effI 3 = (1, 0) := rfl
   simp (maxSteps:=9^9) only [a101, r101, hel, he, C125, C126, rcH, go_sem, Int.reduceLT, Int.reduceLE, Int.reduceEq, Nat.reduceLeDiff, Nat.reduceSub, Nat.reduceMul, Nat.reduceLT, Nat.reduceBEq, Nat.reduceAdd]
   refine nd_intro ⟨hpc.1, hpc.2.1⟩ (nd_intro (by omega) ⟨⟨⟨hpc.1, hpc.2.1⟩, by omega⟩, ?_⟩)
   rintro _ _ m hm
   rw [w64 (by omega)] at hm
   subst m
   rintro _ _ m1 rfl c rfl
   refine sw_intro (fun c1 => hgo 10 (hsh (.inl (of_decide_eq_true c1))) ten { M with pc := M.pc + 1 } rfl) (fun c1 => ?_)
   rintro _ _ m2 rfl _ _ m3 hm3
   rw [w64 (by omega)] at hm3
   subst m3
   rintro _ _ m4 hm4
   rw [w64 (by omega)] at hm4
   subst m4
   rintro c rfl
   refine sw_intro (fun c2 => hgo 10 (hsh (.inr (of_decide_eq_true c2))) ten { M with pc := M.pc + 1 } rfl) (fun c2 => ?_)
   have k1 : ¬ (M.stack.length : Int) < 1 := of_decide_eq_false c1
   have k2 : ¬ 16 < (M.stack.length : Int) - 1 + 0 := of_decide_eq_false c2
   have l1 := initI_len M.stack
   have l2 := initI_len (initI M.stack)
   have e : stepN { M with pc := M.pc + 1 } (Int.toNat 3) arg = { M with pc := M.pc + 1, stack := initI M.stack, st := M.st.set arg.toNat (lastI M.stack), ev := M.ev ++ [(arg, lastI M.stack)] } := by
    show (if (popM { M with pc := M.pc + 1 }).2.failed = 0 then ({ (popM { M with pc := M.pc + 1 }).2 with st := (popM { M with pc := M.pc + 1 }).2.st.set arg.toNat (popM { M with pc := M.pc + 1 }).1, ev := (popM { M with pc := M.pc + 1 }).2.ev ++ [(arg, (popM { M with pc := M.pc + 1 }).1)] } : Mc) else (popM { M with pc := M.pc + 1 }).2) = _
    rw [popM_ok (M := { M with pc := M.pc + 1 }) hf (by show M.stack.length ≠ 0; omega)]
    exact if_pos hf
   have b := a1 (.inr rfl)
   have hev := hM.ev
   exact ⟨⟨by omega, by omega⟩, nd_intro b (nd_intro (by omega) ⟨fun _ => by omega, fun _ => h9 _ false e hf hd⟩)⟩
  ·have he : effI 4 = (0, 1) := rfl
   simp (maxSteps:=9^9) only [a101, r101, hel, he, C125, C127, C129, rcH, go_sem, Int.reduceLT, Int.reduceLE, Int.reduceEq, Int.reduceToNat, Nat.reduceLeDiff, Nat.reduceSub, Nat.reduceMul, Nat.reduceLT, Nat.reduceBEq, Nat.reduceAdd]
   refine nd_intro ⟨hpc.1, hpc.2.1⟩ (nd_intro (by omega) ⟨⟨⟨hpc.1, hpc.2.1⟩, by omega⟩, ?_⟩)
   rintro _ _ m hm
   rw [w64 (by omega)] at hm
   subst m
   rintro _ _ m1 rfl c rfl
   refine sw_intro (fun c1 => hgo 10 (hsh (.inl (of_decide_eq_true c1))) ten { M with pc := M.pc + 1 } rfl) (fun c1 => ?_)
   rintro _ _ m2 rfl _ _ m3 hm3
   rw [w64 (by omega)] at hm3
   subst m3
   rintro _ _ m4 hm4
   rw [w64 (by omega)] at hm4
   subst m4
   rintro c rfl
   refine sw_intro (fun c2 => hgo 10 (hsh (.inr (of_decide_eq_true c2))) ten { M with pc := M.pc + 1 } rfl) (fun c2 => ?_)
   have k1 : ¬ (M.stack.length : Int) < 0 := of_decide_eq_false c1
   have k2 : ¬ 16 < (M.stack.length : Int) - 0 + 1 := of_decide_eq_false c2
   have e : stepN { M with pc := M.pc + 1 } (Int.toNat 4) arg = { M with pc := M.pc + 1, stack := M.stack ++ [if arg < (M.args.length : Int) then elt (.int .i64) M.args arg.toNat else 0] } := by
    show (if arg < (M.args.length : Int) then pushM { M with pc := M.pc + 1 } [elt (.int .i64) M.args arg.toNat] else pushM { M with pc := M.pc + 1 } [0]) = _
    split <;> exact push1_ok (M := { M with pc := M.pc + 1 }) hf (by show M.stack.length + 1 ≤ 16; omega)
   exact ⟨hM.st8, ⟨a1, a2, a3⟩, by omega, h9 _ false e hf hd⟩
  ·have he : effI 5 = (0, 1) := rfl
   simp (maxSteps:=9^9) only [a101, r101, hel, he, C125, C127, C129, rcH, go_sem, Int.reduceLT, Int.reduceLE, Int.reduceEq, Int.reduceToNat, Nat.reduceLeDiff, Nat.reduceSub, Nat.reduceMul, Nat.reduceLT, Nat.reduceBEq, Nat.reduceAdd]
   refine nd_intro ⟨hpc.1, hpc.2.1⟩ (nd_intro (by omega) ⟨⟨⟨hpc.1, hpc.2.1⟩, by omega⟩, ?_⟩)
   rintro _ _ m hm
   rw [w64 (by omega)] at hm
   subst m
   rintro _ _ m1 rfl c rfl
   refine sw_intro (fun c1 => hgo 10 (hsh (.inl (of_decide_eq_true c1))) ten { M with pc := M.pc + 1 } rfl) (fun c1 => ?_)
   rintro _ _ m2 rfl _ _ m3 hm3
   rw [w64 (by omega)] at hm3
   subst m3
   rintro _ _ m4 hm4
   rw [w64 (by omega)] at hm4
   subst m4
   rintro c rfl
   refine sw_intro (fun c2 => hgo 10 (hsh (.inr (of_decide_eq_true c2))) ten { M with pc := M.pc + 1 } rfl) (fun c2 => ?_)
   have k1 : ¬ (M.stack.length : Int) < 0 := of_decide_eq_false c1
   have k2 : ¬ 16 < (M.stack.length : Int) - 0 + 1 := of_decide_eq_false c2
   have e : stepN { M with pc := M.pc + 1 } (Int.toNat 5) arg = { M with pc := M.pc + 1, stack := M.stack ++ [M.k] } := push1_ok (M := { M with pc := M.pc + 1 }) hf (by show M.stack.length + 1 ≤ 16; omega)
   exact ⟨hM.st8, ⟨a1, a2, a3⟩, by omega, h9 _ false e hf hd⟩
  ·have he : effI 6 = (2, 1) := rfl
   simp (maxSteps:=9^9) only [a101, r101, hel, he, C125, C126, C127, C129, rcH, go_sem, Int.reduceLT, Int.reduceLE, Int.reduceEq, Int.reduceToNat, Nat.reduceLeDiff, Nat.reduceSub, Nat.reduceMul, Nat.reduceLT, Nat.reduceBEq, Nat.reduceAdd]
   refine nd_intro ⟨hpc.1, hpc.2.1⟩ (nd_intro (by omega) ⟨⟨⟨hpc.1, hpc.2.1⟩, by omega⟩, ?_⟩)
   rintro _ _ m hm
   rw [w64 (by omega)] at hm
   subst m
   rintro _ _ m1 rfl c rfl
   refine sw_intro (fun c1 => hgo 10 (hsh (.inl (of_decide_eq_true c1))) ten { M with pc := M.pc + 1 } rfl) (fun c1 => ?_)
   rintro _ _ m2 rfl _ _ m3 hm3
   rw [w64 (by omega)] at hm3
   subst m3
   rintro _ _ m4 hm4
   rw [w64 (by omega)] at hm4
   subst m4
   rintro c rfl
   refine sw_intro (fun c2 => hgo 10 (hsh (.inr (of_decide_eq_true c2))) ten { M with pc := M.pc + 1 } rfl) (fun c2 => ?_)
   have k1 : ¬ (M.stack.length : Int) < 2 := of_decide_eq_false c1
   have k2 : ¬ 16 < (M.stack.length : Int) - 2 + 1 := of_decide_eq_false c2
   have l1 := initI_len M.stack
   have l2 := initI_len (initI M.stack)
   have e : stepN { M with pc := M.pc + 1 } (Int.toNat 6) arg = { M with pc := M.pc + 1, stack := initI (initI M.stack) ++ [opI 6 (lastI (initI M.stack)) (lastI M.stack)] } := by
    show pushM (twoM { M with pc := M.pc + 1 }).2 [opI 6 (twoM { M with pc := M.pc + 1 }).1.1 (twoM { M with pc := M.pc + 1 }).1.2] = _
    rw [twoM_ok (M := { M with pc := M.pc + 1 }) hf (by show 2 ≤ M.stack.length; omega)]
    exact push1_ok (M := { M with pc := M.pc + 1, stack := initI (initI M.stack) }) hf (by show (initI (initI M.stack)).length + 1 ≤ 16; omega)
   exact ⟨⟨by omega, by omega⟩, ⟨by omega, by omega⟩, hM.st8, ⟨a1, a2, a3⟩, by omega, h9 _ false e hf hd⟩
  ·have he : effI 7 = (2, 1) := rfl
   simp (maxSteps:=9^9) only [a101, r101, hel, he, C125, C126, C127, C129, rcH, go_sem, Int.reduceLT, Int.reduceLE, Int.reduceEq, Int.reduceToNat, Nat.reduceLeDiff, Nat.reduceSub, Nat.reduceMul, Nat.reduceLT, Nat.reduceBEq, Nat.reduceAdd]
   refine nd_intro ⟨hpc.1, hpc.2.1⟩ (nd_intro (by omega) ⟨⟨⟨hpc.1, hpc.2.1⟩, by omega⟩, ?_⟩)
   rintro _ _ m hm
   rw [w64 (by omega)] at hm
   subst m
   rintro _ _ m1 rfl c rfl
   refine sw_intro (fun c1 => hgo 10 (hsh (.inl (of_decide_eq_true c1))) ten { M with pc := M.pc + 1 } rfl) (fun c1 => ?_)
   rintro _ _ m2 rfl _ _ m3 hm3
   rw [w64 (by omega)] at hm3
   subst m3
   rintro _ _ m4 hm4
   rw [w64 (by omega)] at hm4
   subst m4
   rintro c rfl
   refine sw_intro (fun c2 => hgo 10 (hsh (.inr (of_decide_eq_true c2))) ten { M with pc := M.pc + 1 } rfl) (fun c2 => ?_)
   have k1 : ¬ (M.stack.length : Int) < 2 := of_decide_eq_false c1
   have k2 : ¬ 16 < (M.stack.length : Int) - 2 + 1 := of_decide_eq_false c2
   have l1 := initI_len M.stack
   have l2 := initI_len (initI M.stack)
   have e : stepN { M with pc := M.pc + 1 } (Int.toNat 7) arg = { M with pc := M.pc + 1, stack := initI (initI M.stack) ++ [opI 7 (lastI (initI M.stack)) (lastI M.stack)] } := by
    show pushM (twoM { M with pc := M.pc + 1 }).2 [opI 7 (twoM { M with pc := M.pc + 1 }).1.1 (twoM { M with pc := M.pc + 1 }).1.2] = _
    rw [twoM_ok (M := { M with pc := M.pc + 1 }) hf (by show 2 ≤ M.stack.length; omega)]
    exact push1_ok (M := { M with pc := M.pc + 1, stack := initI (initI M.stack) }) hf (by show (initI (initI M.stack)).length + 1 ≤ 16; omega)
   exact ⟨⟨by omega, by omega⟩, ⟨by omega, by omega⟩, hM.st8, ⟨a1, a2, a3⟩, by omega, h9 _ false e hf hd⟩
  ·have he : effI 8 = (2, 1) := rfl
   simp (maxSteps:=9^9) only [a101, r101, hel, he, C125, C126, C127, C129, rcH, go_sem, Int.reduceLT, Int.reduceLE, Int.reduceEq, Int.reduceToNat, Nat.reduceLeDiff, Nat.reduceSub, Nat.reduceMul, Nat.reduceLT, Nat.reduceBEq, Nat.reduceAdd]
   refine nd_intro ⟨hpc.1, hpc.2.1⟩ (nd_intro (by omega) ⟨⟨⟨hpc.1, hpc.2.1⟩, by omega⟩, ?_⟩)
   rintro _ _ m hm
   rw [w64 (by omega)] at hm
   subst m
   rintro _ _ m1 rfl c rfl
   refine sw_intro (fun c1 => hgo 10 (hsh (.inl (of_decide_eq_true c1))) ten { M with pc := M.pc + 1 } rfl) (fun c1 => ?_)
   rintro _ _ m2 rfl _ _ m3 hm3
   rw [w64 (by omega)] at hm3
   subst m3
   rintro _ _ m4 hm4
   rw [w64 (by omega)] at hm4
   subst m4
   rintro c rfl
   refine sw_intro (fun c2 => hgo 10 (hsh (.inr (of_decide_eq_true c2))) ten { M with pc := M.pc + 1 } rfl) (fun c2 => ?_)
   have k1 : ¬ (M.stack.length : Int) < 2 := of_decide_eq_false c1
   have k2 : ¬ 16 < (M.stack.length : Int) - 2 + 1 := of_decide_eq_false c2
   have l1 := initI_len M.stack
   have l2 := initI_len (initI M.stack)
   have e : stepN { M with pc := M.pc + 1 } (Int.toNat 8) arg = { M with pc := M.pc + 1, stack := initI (initI M.stack) ++ [opI 8 (lastI (initI M.stack)) (lastI M.stack)] } := by
    show pushM (twoM { M with pc := M.pc + 1 }).2 [opI 8 (twoM { M with pc := M.pc + 1 }).1.1 (twoM { M with pc := M.pc + 1 }).1.2] = _
    rw [twoM_ok (M := { M with pc := M.pc + 1 }) hf (by show 2 ≤ M.stack.length; omega)]
    exact push1_ok (M := { M with pc := M.pc + 1, stack := initI (initI M.stack) }) hf (by show (initI (initI M.stack)).length + 1 ≤ 16; omega)
   exact ⟨⟨by omega, by omega⟩, ⟨by omega, by omega⟩, hM.st8, ⟨a1, a2, a3⟩, by omega, h9 _ false e hf hd⟩
  ·have he : effI 9 = (2, 1) := rfl
   simp (maxSteps:=9^9) only [a101, r101, hel, he, C125, C126, C127, C129, rcH, go_sem, Int.reduceLT, Int.reduceLE, Int.reduceEq, Int.reduceToNat, Nat.reduceLeDiff, Nat.reduceSub, Nat.reduceMul, Nat.reduceLT, Nat.reduceBEq, Nat.reduceAdd]
   refine nd_intro ⟨hpc.1, hpc.2.1⟩ (nd_intro (by omega) ⟨⟨⟨hpc.1, hpc.2.1⟩, by omega⟩, ?_⟩)
   rintro _ _ m hm
   rw [w64 (by omega)] at hm
   subst m
   rintro _ _ m1 rfl c rfl
   refine sw_intro (fun c1 => hgo 10 (hsh (.inl (of_decide_eq_true c1))) ten { M with pc := M.pc + 1 } rfl) (fun c1 => ?_)
   rintro _ _ m2 rfl _ _ m3 hm3
   rw [w64 (by omega)] at hm3
   subst m3
   rintro _ _ m4 hm4
   rw [w64 (by omega)] at hm4
   subst m4
   rintro c rfl
   refine sw_intro (fun c2 => hgo 10 (hsh (.inr (of_decide_eq_true c2))) ten { M with pc := M.pc + 1 } rfl) (fun c2 => ?_)
   have k1 : ¬ (M.stack.length : Int) < 2 := of_decide_eq_false c1
   have k2 : ¬ 16 < (M.stack.length : Int) - 2 + 1 := of_decide_eq_false c2
   have l1 := initI_len M.stack
   have l2 := initI_len (initI M.stack)
   have e : stepN { M with pc := M.pc + 1 } (Int.toNat 9) arg = { M with pc := M.pc + 1, stack := initI (initI M.stack) ++ [opI 9 (lastI (initI M.stack)) (lastI M.stack)] } := by
    show pushM (twoM { M with pc := M.pc + 1 }).2 [opI 9 (twoM { M with pc := M.pc + 1 }).1.1 (twoM { M with pc := M.pc + 1 }).1.2] = _
    rw [twoM_ok (M := { M with pc := M.pc + 1 }) hf (by show 2 ≤ M.stack.length; omega)]
    exact push1_ok (M := { M with pc := M.pc + 1, stack := initI (initI M.stack) }) hf (by show (initI (initI M.stack)).length + 1 ≤ 16; omega)
   exact ⟨⟨by omega, by omega⟩, ⟨by omega, by omega⟩, hM.st8, ⟨a1, a2, a3⟩, by omega, h9 _ false e hf hd⟩
  ·have he : effI 10 = (2, 1) := rfl
   simp (maxSteps:=9^9) only [a101, r101, hel, he, C125, C126, C127, C129, rcH, go_sem, Int.reduceLT, Int.reduceLE, Int.reduceEq, Int.reduceToNat, Nat.reduceLeDiff, Nat.reduceSub, Nat.reduceMul, Nat.reduceLT, Nat.reduceBEq, Nat.reduceAdd]
   refine nd_intro ⟨hpc.1, hpc.2.1⟩ (nd_intro (by omega) ⟨⟨⟨hpc.1, hpc.2.1⟩, by omega⟩, ?_⟩)
   rintro _ _ m hm
   rw [w64 (by omega)] at hm
   subst m
   rintro _ _ m1 rfl c rfl
   refine sw_intro (fun c1 => hgo 10 (hsh (.inl (of_decide_eq_true c1))) ten { M with pc := M.pc + 1 } rfl) (fun c1 => ?_)
   rintro _ _ m2 rfl _ _ m3 hm3
   rw [w64 (by omega)] at hm3
   subst m3
   rintro _ _ m4 hm4
   rw [w64 (by omega)] at hm4
   subst m4
   rintro c rfl
   refine sw_intro (fun c2 => hgo 10 (hsh (.inr (of_decide_eq_true c2))) ten { M with pc := M.pc + 1 } rfl) (fun c2 => ?_)
   have k1 : ¬ (M.stack.length : Int) < 2 := of_decide_eq_false c1
   have k2 : ¬ 16 < (M.stack.length : Int) - 2 + 1 := of_decide_eq_false c2
   have l1 := initI_len M.stack
   have l2 := initI_len (initI M.stack)
   have e : stepN { M with pc := M.pc + 1 } (Int.toNat 10) arg = { M with pc := M.pc + 1, stack := initI (initI M.stack) ++ [opI 10 (lastI (initI M.stack)) (lastI M.stack)] } := by
    show pushM (twoM { M with pc := M.pc + 1 }).2 [opI 10 (twoM { M with pc := M.pc + 1 }).1.1 (twoM { M with pc := M.pc + 1 }).1.2] = _
    rw [twoM_ok (M := { M with pc := M.pc + 1 }) hf (by show 2 ≤ M.stack.length; omega)]
    exact push1_ok (M := { M with pc := M.pc + 1, stack := initI (initI M.stack) }) hf (by show (initI (initI M.stack)).length + 1 ≤ 16; omega)
   exact ⟨⟨by omega, by omega⟩, ⟨by omega, by omega⟩, hM.st8, ⟨a1, a2, a3⟩, by omega, h9 _ false e hf hd⟩
  ·have he : effI 11 = (1, 1) := rfl
   simp (maxSteps:=9^9) only [a101, r101, hel, he, C125, C126, C127, C129, rcH, go_sem, Int.reduceLT, Int.reduceLE, Int.reduceEq, Int.reduceToNat, Nat.reduceLeDiff, Nat.reduceSub, Nat.reduceMul, Nat.reduceLT, Nat.reduceBEq, Nat.reduceAdd]
   refine nd_intro ⟨hpc.1, hpc.2.1⟩ (nd_intro (by omega) ⟨⟨⟨hpc.1, hpc.2.1⟩, by omega⟩, ?_⟩)
   rintro _ _ m hm
   rw [w64 (by omega)] at hm
   subst m
   rintro _ _ m1 rfl c rfl
   refine sw_intro (fun c1 => hgo 10 (hsh (.inl (of_decide_eq_true c1))) ten { M with pc := M.pc + 1 } rfl) (fun c1 => ?_)
   rintro _ _ m2 rfl _ _ m3 hm3
   rw [w64 (by omega)] at hm3
   subst m3
   rintro _ _ m4 hm4
   rw [w64 (by omega)] at hm4
   subst m4
   rintro c rfl
   refine sw_intro (fun c2 => hgo 10 (hsh (.inr (of_decide_eq_true c2))) ten { M with pc := M.pc + 1 } rfl) (fun c2 => ?_)
   have k1 : ¬ (M.stack.length : Int) < 1 := of_decide_eq_false c1
   have k2 : ¬ 16 < (M.stack.length : Int) - 1 + 1 := of_decide_eq_false c2
   have l1 := initI_len M.stack
   have l2 := initI_len (initI M.stack)
   have e : stepN { M with pc := M.pc + 1 } (Int.toNat 11) arg = { M with pc := M.pc + 1, stack := initI M.stack ++ [truthI (decide (lastI M.stack = 0))] } := by
    show pushM (popM { M with pc := M.pc + 1 }).2 [truthI (decide ((popM { M with pc := M.pc + 1 }).1 = 0))] = _
    rw [popM_ok (M := { M with pc := M.pc + 1 }) hf (by show M.stack.length ≠ 0; omega)]
    exact push1_ok (M := { M with pc := M.pc + 1, stack := initI M.stack }) hf (by show (initI M.stack).length + 1 ≤ 16; omega)
   exact ⟨⟨by omega, by omega⟩, hM.st8, ⟨a1, a2, a3⟩, by omega, h9 _ false e hf hd⟩
  ·have he : effI 12 = (1, 2) := rfl
   simp (maxSteps:=9^9) only [a101, r101, hel, he, C125, C126, C127, rcH, go_sem, Int.reduceLT, Int.reduceLE, Int.reduceEq, Nat.reduceLeDiff, Nat.reduceSub, Nat.reduceMul, Nat.reduceLT, Nat.reduceBEq, Nat.reduceAdd]
   refine nd_intro ⟨hpc.1, hpc.2.1⟩ (nd_intro (by omega) ⟨⟨⟨hpc.1, hpc.2.1⟩, by omega⟩, ?_⟩)
   rintro _ _ m hm
   rw [w64 (by omega)] at hm
   subst m
   rintro _ _ m1 rfl c rfl
   refine sw_intro (fun c1 => hgo 10 (hsh (.inl (of_decide_eq_true c1))) ten { M with pc := M.pc + 1 } rfl) (fun c1 => ?_)
   rintro _ _ m2 rfl _ _ m3 hm3
   rw [w64 (by omega)] at hm3
   subst m3
   rintro _ _ m4 hm4
   rw [w64 (by omega)] at hm4
   subst m4
   rintro c rfl
   refine sw_intro (fun c2 => hgo 10 (hsh (.inr (of_decide_eq_true c2))) ten { M with pc := M.pc + 1 } rfl) (fun c2 => ?_)
   have k1 : ¬ (M.stack.length : Int) < 1 := of_decide_eq_false c1
   have k2 : ¬ 16 < (M.stack.length : Int) - 1 + 2 := of_decide_eq_false c2
   have l1 := initI_len M.stack
   have l2 := initI_len (initI M.stack)
   have e : stepN { M with pc := M.pc + 1 } (Int.toNat 12) arg = { M with pc := M.pc + 1, stack := initI M.stack ++ [lastI M.stack, lastI M.stack] } := by
    show pushM (popM { M with pc := M.pc + 1 }).2 [(popM { M with pc := M.pc + 1 }).1, (popM { M with pc := M.pc + 1 }).1] = _
    rw [popM_ok (M := { M with pc := M.pc + 1 }) hf (by show M.stack.length ≠ 0; omega)]
    exact pushM_ok (M := { M with pc := M.pc + 1, stack := initI M.stack }) hf (by show ¬ 16 < (initI M.stack).length + 2; omega)
   refine ⟨⟨by omega, by omega⟩, by omega, by rw [List.length_append]; show _ + 1 ≤ 100; omega, ?_⟩
   rw [List.append_assoc]
   exact h9 _ false e hf hd
  ·have he : effI 13 = (1, 0) := rfl
   simp (maxSteps:=9^9) only [a101, r101, hel, he, C125, C126, rcH, go_sem, Int.reduceLT, Int.reduceLE, Int.reduceEq, Nat.reduceLeDiff, Nat.reduceSub, Nat.reduceMul, Nat.reduceLT, Nat.reduceBEq, Nat.reduceAdd]
   refine nd_intro ⟨hpc.1, hpc.2.1⟩ (nd_intro (by omega) ⟨⟨⟨hpc.1, hpc.2.1⟩, by omega⟩, ?_⟩)
   rintro _ _ m hm
   rw [w64 (by omega)] at hm
   subst m
   rintro _ _ m1 rfl c rfl
   refine sw_intro (fun c1 => hgo 10 (hsh (.inl (of_decide_eq_true c1))) ten { M with pc := M.pc + 1 } rfl) (fun c1 => ?_)
   rintro _ _ m2 rfl _ _ m3 hm3
   rw [w64 (by omega)] at hm3
   subst m3
   rintro _ _ m4 hm4
   rw [w64 (by omega)] at hm4
   subst m4
   rintro c rfl
   refine sw_intro (fun c2 => hgo 10 (hsh (.inr (of_decide_eq_true c2))) ten { M with pc := M.pc + 1 } rfl) (fun c2 => ?_)
   have k1 : ¬ (M.stack.length : Int) < 1 := of_decide_eq_false c1
   have k2 : ¬ 16 < (M.stack.length : Int) - 1 + 0 := of_decide_eq_false c2
   have l1 := initI_len M.stack
   have l2 := initI_len (initI M.stack)
   have e : stepN { M with pc := M.pc + 1 } (Int.toNat 13) arg = { M with pc := M.pc + 1, stack := initI M.stack } := by
    show (popM { M with pc := M.pc + 1 }).2 = _
    rw [popM_ok (M := { M with pc := M.pc + 1 }) hf (by show M.stack.length ≠ 0; omega)]
   exact ⟨⟨by omega, by omega⟩, h9 _ false e hf hd⟩
  ·have he : effI 14 = (2, 2) := rfl
   simp (maxSteps:=9^9) only [a101, r101, hel, he, C125, C126, C127, rcH, go_sem, Int.reduceLT, Int.reduceLE, Int.reduceEq, Nat.reduceLeDiff, Nat.reduceSub, Nat.reduceMul, Nat.reduceLT, Nat.reduceBEq, Nat.reduceAdd]
   refine nd_intro ⟨hpc.1, hpc.2.1⟩ (nd_intro (by omega) ⟨⟨⟨hpc.1, hpc.2.1⟩, by omega⟩, ?_⟩)
   rintro _ _ m hm
   rw [w64 (by omega)] at hm
   subst m
   rintro _ _ m1 rfl c rfl
   refine sw_intro (fun c1 => hgo 10 (hsh (.inl (of_decide_eq_true c1))) ten { M with pc := M.pc + 1 } rfl) (fun c1 => ?_)
   rintro _ _ m2 rfl _ _ m3 hm3
   rw [w64 (by omega)] at hm3
   subst m3
   rintro _ _ m4 hm4
   rw [w64 (by omega)] at hm4
   subst m4
   rintro c rfl
   refine sw_intro (fun c2 => hgo 10 (hsh (.inr (of_decide_eq_true c2))) ten { M with pc := M.pc + 1 } rfl) (fun c2 => ?_)
   have k1 : ¬ (M.stack.length : Int) < 2 := of_decide_eq_false c1
   have k2 : ¬ 16 < (M.stack.length : Int) - 2 + 2 := of_decide_eq_false c2
   have l1 := initI_len M.stack
   have l2 := initI_len (initI M.stack)
   have e : stepN { M with pc := M.pc + 1 } (Int.toNat 14) arg = { M with pc := M.pc + 1, stack := initI (initI M.stack) ++ [lastI M.stack, lastI (initI M.stack)] } := by
    show pushM (twoM { M with pc := M.pc + 1 }).2 [(twoM { M with pc := M.pc + 1 }).1.2, (twoM { M with pc := M.pc + 1 }).1.1] = _
    rw [twoM_ok (M := { M with pc := M.pc + 1 }) hf (by show 2 ≤ M.stack.length; omega)]
    exact pushM_ok (M := { M with pc := M.pc + 1, stack := initI (initI M.stack) }) hf (by show ¬ 16 < (initI (initI M.stack)).length + 2; omega)
   refine ⟨⟨by omega, by omega⟩, ⟨by omega, by omega⟩, by omega, by rw [List.length_append]; show _ + 1 ≤ 100; omega, ?_⟩
   rw [List.append_assoc]
   exact h9 _ false e hf hd
  ·have he : effI 15 = (0, 0) := rfl
   simp (maxSteps:=9^9) only [a101, r101, hel, he, C125, go_sem, Int.reduceLT, Int.reduceLE, Int.reduceEq, Nat.reduceLeDiff, Nat.reduceSub, Nat.reduceMul, Nat.reduceBEq, Nat.reduceAdd]
   refine nd_intro ⟨hpc.1, hpc.2.1⟩ (nd_intro (by omega) ⟨⟨⟨hpc.1, hpc.2.1⟩, by omega⟩, ?_⟩)
   rintro _ _ m hm
   rw [w64 (by omega)] at hm
   subst m
   rintro _ _ m1 rfl c rfl
   refine sw_intro (fun c1 => hgo 10 (hsh (.inl (of_decide_eq_true c1))) ten { M with pc := M.pc + 1 } rfl) (fun c1 => ?_)
   rintro _ _ m2 rfl _ _ m3 hm3
   rw [w64 (by omega)] at hm3
   subst m3
   rintro _ _ m4 hm4
   rw [w64 (by omega)] at hm4
   subst m4
   rintro c rfl
   refine sw_intro (fun c2 => hgo 10 (hsh (.inr (of_decide_eq_true c2))) ten { M with pc := M.pc + 1 } rfl) (fun c2 => ?_)
   have k1 : ¬ (M.stack.length : Int) < 0 := of_decide_eq_false c1
   have k2 : ¬ 16 < (M.stack.length : Int) - 0 + 0 := of_decide_eq_false c2
   exact h9 { M with pc := arg } false rfl hf hd
  ·have he : effI 16 = (1, 0) := rfl
   simp (maxSteps:=9^9) only [a101, r101, hel, he, C125, C126, rcH, go_sem, Int.reduceLT, Int.reduceLE, Int.reduceEq, Nat.reduceLeDiff, Nat.reduceSub, Nat.reduceMul, Nat.reduceLT, Nat.reduceBEq, Nat.reduceAdd]
   refine nd_intro ⟨hpc.1, hpc.2.1⟩ (nd_intro (by omega) ⟨⟨⟨hpc.1, hpc.2.1⟩, by omega⟩, ?_⟩)
   rintro _ _ m hm
   rw [w64 (by omega)] at hm
   subst m
   rintro _ _ m1 rfl c rfl
   refine sw_intro (fun c1 => hgo 10 (hsh (.inl (of_decide_eq_true c1))) ten { M with pc := M.pc + 1 } rfl) (fun c1 => ?_)
   rintro _ _ m2 rfl _ _ m3 hm3
   rw [w64 (by omega)] at hm3
   subst m3
   rintro _ _ m4 hm4
   rw [w64 (by omega)] at hm4
   subst m4
   rintro c rfl
   refine sw_intro (fun c2 => hgo 10 (hsh (.inr (of_decide_eq_true c2))) ten { M with pc := M.pc + 1 } rfl) (fun c2 => ?_)
   have k1 : ¬ (M.stack.length : Int) < 1 := of_decide_eq_false c1
   have k2 : ¬ 16 < (M.stack.length : Int) - 1 + 0 := of_decide_eq_false c2
   have l1 := initI_len M.stack
   have l2 := initI_len (initI M.stack)
   have e0 : stepN { M with pc := M.pc + 1 } (Int.toNat 16) arg = if lastI M.stack = 0 then { M with pc := arg, stack := initI M.stack } else { M with pc := M.pc + 1, stack := initI M.stack } := by
    show (if (popM { M with pc := M.pc + 1 }).1 = 0 ∧ (popM { M with pc := M.pc + 1 }).2.failed = 0 then ({ (popM { M with pc := M.pc + 1 }).2 with pc := arg } : Mc) else (popM { M with pc := M.pc + 1 }).2) = _
    rw [popM_ok (M := { M with pc := M.pc + 1 }) hf (by show M.stack.length ≠ 0; omega)]
    by_cases hz : lastI M.stack = 0
    ·rw [if_pos ⟨hz, hf⟩, if_pos hz]
    ·rw [if_neg (fun hh => hz hh.1), if_neg hz]
   refine ⟨⟨by omega, by omega⟩, ?_⟩
   rintro c rfl
   refine sw_intro (fun c3 => ?_) (fun c3 => ?_) <;> simp only [decide_eq_true_eq, decide_eq_false_iff_not] at c3
   ·rw [if_pos c3] at e0
    exact h9 _ false e0 hf hd
   ·rw [if_neg c3] at e0
    exact h9 _ false e0 hf hd
  ·have he : effI 17 = (2, 0) := rfl
   simp (maxSteps:=9^9) only [a101, r101, hel, he, C125, C126, C128, rcH, go_sem, Int.reduceLT, Int.reduceLE, Int.reduceEq, Int.reduceToNat, Nat.reduceLeDiff, Nat.reduceSub, Nat.reduceMul, Nat.reduceLT, Nat.reduceBEq, Nat.reduceAdd]
   refine nd_intro ⟨hpc.1, hpc.2.1⟩ (nd_intro (by omega) ⟨⟨⟨hpc.1, hpc.2.1⟩, by omega⟩, ?_⟩)
   rintro _ _ m hm
   rw [w64 (by omega)] at hm
   subst m
   rintro _ _ m1 rfl c rfl
   refine sw_intro (fun c1 => hgo 10 (hsh (.inl (of_decide_eq_true c1))) ten { M with pc := M.pc + 1 } rfl) (fun c1 => ?_)
   rintro _ _ m2 rfl _ _ m3 hm3
   rw [w64 (by omega)] at hm3
   subst m3
   rintro _ _ m4 hm4
   rw [w64 (by omega)] at hm4
   subst m4
   rintro c rfl
   refine sw_intro (fun c2 => hgo 10 (hsh (.inr (of_decide_eq_true c2))) ten { M with pc := M.pc + 1 } rfl) (fun c2 => ?_)
   have k1 : ¬ (M.stack.length : Int) < 2 := of_decide_eq_false c1
   have k2 : ¬ 16 < (M.stack.length : Int) - 2 + 0 := of_decide_eq_false c2
   have l1 := initI_len M.stack
   have l2 := initI_len (initI M.stack)
   have e : stepN { M with pc := M.pc + 1 } (Int.toNat 17) arg = outF { M with pc := M.pc + 1, stack := initI (initI M.stack) } 17 arg (lastI (initI M.stack)) (lastI M.stack) := by
    show sendM (twoM { M with pc := M.pc + 1 }).2 (nmI (twoM { M with pc := M.pc + 1 }).2 arg) (twoM { M with pc := M.pc + 1 }).1.1 (twoM { M with pc := M.pc + 1 }).1.2 = _
    rw [twoM_ok (M := { M with pc := M.pc + 1 }) hf (by show 2 ≤ M.stack.length; omega)]
    rfl
   have eN := Mc.norm (M := { M with pc := M.pc + 1, stack := initI (initI M.stack) }) hf hd
   have e9 := e.trans (congrArg (fun Z => outF Z 17 arg (lastI (initI M.stack)) (lastI M.stack)) eN)
   refine ⟨⟨by omega, by omega⟩, ⟨by omega, by omega⟩, ⟨by show (initI (initI M.stack)).length ≤ 16; omega, hM.st8, hM.ev, hM.sent, hM.tim⟩, hnow, ⟨a1, a2, a3⟩, fun hz => ?_, fun hz => ?_⟩
   ·exact h9 _ false e9 hz (outF_done rfl)
   ·exact hgo _ (congrArg Mc.failed e9) hz { M with pc := M.pc + 1, stack := initI (initI M.stack) } rfl
  ·have he : effI 18 = (2, 0) := rfl
   simp (maxSteps:=9^9) only [a101, r101, hel, he, C125, C126, C128, rcH, go_sem, Int.reduceLT, Int.reduceLE, Int.reduceEq, Int.reduceToNat, Nat.reduceLeDiff, Nat.reduceSub, Nat.reduceMul, Nat.reduceLT, Nat.reduceBEq, Nat.reduceAdd]
   refine nd_intro ⟨hpc.1, hpc.2.1⟩ (nd_intro (by omega) ⟨⟨⟨hpc.1, hpc.2.1⟩, by omega⟩, ?_⟩)
   rintro _ _ m hm
   rw [w64 (by omega)] at hm
   subst m
   rintro _ _ m1 rfl c rfl
   refine sw_intro (fun c1 => hgo 10 (hsh (.inl (of_decide_eq_true c1))) ten { M with pc := M.pc + 1 } rfl) (fun c1 => ?_)
   rintro _ _ m2 rfl _ _ m3 hm3
   rw [w64 (by omega)] at hm3
   subst m3
   rintro _ _ m4 hm4
   rw [w64 (by omega)] at hm4
   subst m4
   rintro c rfl
   refine sw_intro (fun c2 => hgo 10 (hsh (.inr (of_decide_eq_true c2))) ten { M with pc := M.pc + 1 } rfl) (fun c2 => ?_)
   have k1 : ¬ (M.stack.length : Int) < 2 := of_decide_eq_false c1
   have k2 : ¬ 16 < (M.stack.length : Int) - 2 + 0 := of_decide_eq_false c2
   have l1 := initI_len M.stack
   have l2 := initI_len (initI M.stack)
   have e : stepN { M with pc := M.pc + 1 } (Int.toNat 18) arg = outF { M with pc := M.pc + 1, stack := initI (initI M.stack) } 18 arg (lastI (initI M.stack)) (lastI M.stack) := by
    show sendM (twoM { M with pc := M.pc + 1 }).2 (twoM { M with pc := M.pc + 1 }).2.f (twoM { M with pc := M.pc + 1 }).1.1 (twoM { M with pc := M.pc + 1 }).1.2 = _
    rw [twoM_ok (M := { M with pc := M.pc + 1 }) hf (by show 2 ≤ M.stack.length; omega)]
    rfl
   have eN := Mc.norm (M := { M with pc := M.pc + 1, stack := initI (initI M.stack) }) hf hd
   have e9 := e.trans (congrArg (fun Z => outF Z 18 arg (lastI (initI M.stack)) (lastI M.stack)) eN)
   refine ⟨⟨by omega, by omega⟩, ⟨by omega, by omega⟩, ⟨by show (initI (initI M.stack)).length ≤ 16; omega, hM.st8, hM.ev, hM.sent, hM.tim⟩, hnow, ⟨a1, a2, a3⟩, fun hz => ?_, fun hz => ?_⟩
   ·exact h9 _ false e9 hz (outF_done rfl)
   ·exact hgo _ (congrArg Mc.failed e9) hz { M with pc := M.pc + 1, stack := initI (initI M.stack) } rfl
  ·have he : effI 19 = (2, 0) := rfl
   simp (maxSteps:=9^9) only [a101, r101, hel, he, C125, C126, C128, rcH, go_sem, Int.reduceLT, Int.reduceLE, Int.reduceEq, Int.reduceToNat, Nat.reduceLeDiff, Nat.reduceSub, Nat.reduceMul, Nat.reduceLT, Nat.reduceBEq, Nat.reduceAdd]
   refine nd_intro ⟨hpc.1, hpc.2.1⟩ (nd_intro (by omega) ⟨⟨⟨hpc.1, hpc.2.1⟩, by omega⟩, ?_⟩)
   rintro _ _ m hm
   rw [w64 (by omega)] at hm
   subst m
   rintro _ _ m1 rfl c rfl
   refine sw_intro (fun c1 => hgo 10 (hsh (.inl (of_decide_eq_true c1))) ten { M with pc := M.pc + 1 } rfl) (fun c1 => ?_)
   rintro _ _ m2 rfl _ _ m3 hm3
   rw [w64 (by omega)] at hm3
   subst m3
   rintro _ _ m4 hm4
   rw [w64 (by omega)] at hm4
   subst m4
   rintro c rfl
   refine sw_intro (fun c2 => hgo 10 (hsh (.inr (of_decide_eq_true c2))) ten { M with pc := M.pc + 1 } rfl) (fun c2 => ?_)
   have k1 : ¬ (M.stack.length : Int) < 2 := of_decide_eq_false c1
   have k2 : ¬ 16 < (M.stack.length : Int) - 2 + 0 := of_decide_eq_false c2
   have l1 := initI_len M.stack
   have l2 := initI_len (initI M.stack)
   have e : stepN { M with pc := M.pc + 1 } (Int.toNat 19) arg = outF { M with pc := M.pc + 1, stack := initI (initI M.stack) } 19 arg (lastI (initI M.stack)) (lastI M.stack) := by
    show remM (twoM { M with pc := M.pc + 1 }).2 (nmI (refM (twoM { M with pc := M.pc + 1 }).2 (badR (twoM { M with pc := M.pc + 1 }).2 (twoM { M with pc := M.pc + 1 }).1.1 (twoM { M with pc := M.pc + 1 }).1.2)) arg) (twoM { M with pc := M.pc + 1 }).1.1 (twoM { M with pc := M.pc + 1 }).1.2 (badR (twoM { M with pc := M.pc + 1 }).2 (twoM { M with pc := M.pc + 1 }).1.1 (twoM { M with pc := M.pc + 1 }).1.2) = _
    rw [twoM_ok (M := { M with pc := M.pc + 1 }) hf (by show 2 ≤ M.stack.length; omega)]
    have er : ∀ b, nmI (refM ({ M with pc := M.pc + 1, stack := initI (initI M.stack) } : Mc) b) arg = nmI { M with pc := M.pc + 1, stack := initI (initI M.stack) } arg := fun b => by
     unfold nmI
     rw [(refM_keep _ b).1]
    simp only
    rw [er]
    rfl
   have eN := Mc.norm (M := { M with pc := M.pc + 1, stack := initI (initI M.stack) }) hf hd
   have e9 := e.trans (congrArg (fun Z => outF Z 19 arg (lastI (initI M.stack)) (lastI M.stack)) eN)
   refine ⟨⟨by omega, by omega⟩, ⟨by omega, by omega⟩, ⟨by show (initI (initI M.stack)).length ≤ 16; omega, hM.st8, hM.ev, hM.sent, hM.tim⟩, hnow, ⟨a1, a2, a3⟩, fun hz => ?_, fun hz => ?_⟩
   ·exact h9 _ false e9 hz (outF_done rfl)
   ·exact hgo _ (congrArg Mc.failed e9) hz { M with pc := M.pc + 1, stack := initI (initI M.stack) } rfl
  ·have he : effI 20 = (0, 0) := rfl
   simp (maxSteps:=9^9) only [a101, r101, hel, he, C125, C128, rcH, go_sem, Int.reduceLT, Int.reduceLE, Int.reduceEq, Int.reduceToNat, Nat.reduceLeDiff, Nat.reduceSub, Nat.reduceMul, Nat.reduceLT, Nat.reduceBEq, Nat.reduceAdd]
   refine nd_intro ⟨hpc.1, hpc.2.1⟩ (nd_intro (by omega) ⟨⟨⟨hpc.1, hpc.2.1⟩, by omega⟩, ?_⟩)
   rintro _ _ m hm
   rw [w64 (by omega)] at hm
   subst m
   rintro _ _ m1 rfl c rfl
   refine sw_intro (fun c1 => hgo 10 (hsh (.inl (of_decide_eq_true c1))) ten { M with pc := M.pc + 1 } rfl) (fun c1 => ?_)
   rintro _ _ m2 rfl _ _ m3 hm3
   rw [w64 (by omega)] at hm3
   subst m3
   rintro _ _ m4 hm4
   rw [w64 (by omega)] at hm4
   subst m4
   rintro c rfl
   refine sw_intro (fun c2 => hgo 10 (hsh (.inr (of_decide_eq_true c2))) ten { M with pc := M.pc + 1 } rfl) (fun c2 => ?_)
   have k1 : ¬ (M.stack.length : Int) < 0 := of_decide_eq_false c1
   have k2 : ¬ 16 < (M.stack.length : Int) - 0 + 0 := of_decide_eq_false c2
   have e : stepN { M with pc := M.pc + 1 } (Int.toNat 20) arg = outF { M with pc := M.pc + 1 } 20 arg 0 0 := rfl
   have eN := Mc.norm (M := { M with pc := M.pc + 1 }) hf hd
   have e9 := e.trans (congrArg (fun Z => outF Z 20 arg 0 0) eN)
   refine ⟨⟨hM.stack, hM.st8, hM.ev, hM.sent, hM.tim⟩, hnow, ⟨a1, a2, a3⟩, fun hz => ?_, fun hz => ?_⟩
   ·exact h9 _ false e9 hz (outF_done rfl)
   ·exact hgo _ (congrArg Mc.failed e9) hz { M with pc := M.pc + 1 } rfl
  ·have he : effI 21 = (0, 0) := rfl
   simp (maxSteps:=9^9) only [a101, r101, hel, he, C125, go_sem, Int.reduceLT, Int.reduceLE, Int.reduceEq, Nat.reduceLeDiff, Nat.reduceSub, Nat.reduceMul, Nat.reduceBEq, Nat.reduceAdd]
   refine nd_intro ⟨hpc.1, hpc.2.1⟩ (nd_intro (by omega) ⟨⟨⟨hpc.1, hpc.2.1⟩, by omega⟩, ?_⟩)
   rintro _ _ m hm
   rw [w64 (by omega)] at hm
   subst m
   rintro _ _ m1 rfl c rfl
   refine sw_intro (fun c1 => hgo 10 (hsh (.inl (of_decide_eq_true c1))) ten { M with pc := M.pc + 1 } rfl) (fun c1 => ?_)
   rintro _ _ m2 rfl _ _ m3 hm3
   rw [w64 (by omega)] at hm3
   subst m3
   rintro _ _ m4 hm4
   rw [w64 (by omega)] at hm4
   subst m4
   rintro c rfl
   refine sw_intro (fun c2 => hgo 10 (hsh (.inr (of_decide_eq_true c2))) ten { M with pc := M.pc + 1 } rfl) (fun c2 => ?_)
   have k1 : ¬ (M.stack.length : Int) < 0 := of_decide_eq_false c1
   have k2 : ¬ 16 < (M.stack.length : Int) - 0 + 0 := of_decide_eq_false c2
   exact hgo 12 (congrArg Mc.failed (refM_t (M := { M with pc := M.pc + 1 }) hf)) (by decide) { M with pc := M.pc + 1 } rfl
  ·have he : effI 22 = (0, 1) := rfl
   simp (maxSteps:=9^9) only [a101, r101, hel, he, C125, C127, C129, rcH, go_sem, Int.reduceLT, Int.reduceLE, Int.reduceEq, Int.reduceToNat, Nat.reduceLeDiff, Nat.reduceSub, Nat.reduceMul, Nat.reduceLT, Nat.reduceBEq, Nat.reduceAdd]
   refine nd_intro ⟨hpc.1, hpc.2.1⟩ (nd_intro (by omega) ⟨⟨⟨hpc.1, hpc.2.1⟩, by omega⟩, ?_⟩)
   rintro _ _ m hm
   rw [w64 (by omega)] at hm
   subst m
   rintro _ _ m1 rfl c rfl
   refine sw_intro (fun c1 => hgo 10 (hsh (.inl (of_decide_eq_true c1))) ten { M with pc := M.pc + 1 } rfl) (fun c1 => ?_)
   rintro _ _ m2 rfl _ _ m3 hm3
   rw [w64 (by omega)] at hm3
   subst m3
   rintro _ _ m4 hm4
   rw [w64 (by omega)] at hm4
   subst m4
   rintro c rfl
   refine sw_intro (fun c2 => hgo 10 (hsh (.inr (of_decide_eq_true c2))) ten { M with pc := M.pc + 1 } rfl) (fun c2 => ?_)
   have k1 : ¬ (M.stack.length : Int) < 0 := of_decide_eq_false c1
   have k2 : ¬ 16 < (M.stack.length : Int) - 0 + 1 := of_decide_eq_false c2
   have e : stepN { M with pc := M.pc + 1 } (Int.toNat 22) arg = { M with pc := M.pc + 1, stack := M.stack ++ [M.now] } := push1_ok (M := { M with pc := M.pc + 1 }) hf (by show M.stack.length + 1 ≤ 16; omega)
   exact ⟨hM.st8, ⟨a1, a2, a3⟩, by omega, h9 _ false e hf hd⟩
  ·have he : effI 23 = (0, 1) := rfl
   simp (maxSteps:=9^9) only [a101, r101, hel, he, C125, C127, C129, rcH, go_sem, Int.reduceLT, Int.reduceLE, Int.reduceEq, Int.reduceToNat, Nat.reduceLeDiff, Nat.reduceSub, Nat.reduceMul, Nat.reduceLT, Nat.reduceBEq, Nat.reduceAdd]
   refine nd_intro ⟨hpc.1, hpc.2.1⟩ (nd_intro (by omega) ⟨⟨⟨hpc.1, hpc.2.1⟩, by omega⟩, ?_⟩)
   rintro _ _ m hm
   rw [w64 (by omega)] at hm
   subst m
   rintro _ _ m1 rfl c rfl
   refine sw_intro (fun c1 => hgo 10 (hsh (.inl (of_decide_eq_true c1))) ten { M with pc := M.pc + 1 } rfl) (fun c1 => ?_)
   rintro _ _ m2 rfl _ _ m3 hm3
   rw [w64 (by omega)] at hm3
   subst m3
   rintro _ _ m4 hm4
   rw [w64 (by omega)] at hm4
   subst m4
   rintro c rfl
   refine sw_intro (fun c2 => hgo 10 (hsh (.inr (of_decide_eq_true c2))) ten { M with pc := M.pc + 1 } rfl) (fun c2 => ?_)
   have k1 : ¬ (M.stack.length : Int) < 0 := of_decide_eq_false c1
   have k2 : ¬ 16 < (M.stack.length : Int) - 0 + 1 := of_decide_eq_false c2
   have e : stepN { M with pc := M.pc + 1 } (Int.toNat 23) arg = { M with pc := M.pc + 1, stack := M.stack ++ [IntKind.i64.wrap M.s] } := push1_ok (M := { M with pc := M.pc + 1 }) hf (by show M.stack.length + 1 ≤ 16; omega)
   exact ⟨hM.st8, ⟨a1, a2, a3⟩, by omega, h9 _ false e hf hd⟩
 ·exact h.elim
end Go.V
namespace Go.V
open Go.Proofs
set_option maxRecDepth 100000
set_option maxHeartbeats 16000000
set_option linter.unusedSimpArgs false
set_option linter.unnecessarySimpa false
set_option linter.unusedVariables false
theorem pushM_now (M : Mc) (xs : List Int) : (pushM M xs).now = M.now := by unfold pushM; split <;> (try rfl); split <;> rfl
theorem popM_now (M : Mc) : (popM M).2.now = M.now := by unfold popM; split <;> (try rfl); split <;> rfl
theorem twoM_now (M : Mc) : (twoM M).2.now = M.now := by unfold twoM; exact (popM_now _).trans (popM_now _)
theorem refM_now (M : Mc) (b : Bool) : (refM M b).now = M.now := by unfold refM; split <;> rfl
theorem sendM_now (M : Mc) (to : ByteArray) (x y : Int) : (sendM M to x y).now = M.now := by
 unfold sendM
 split
 ·rfl
 ·split <;> exact refM_now _ _
theorem remM_now (M : Mc) (nm : ByteArray) (x y : Int) (b : Bool) : (remM M nm x y b).now = M.now := by
 unfold remM
 split <;> exact refM_now _ _
theorem stepN_now (M : Mc) (n : Nat) (arg : Int) : (stepN M n arg).now = M.now := by
 unfold stepN
 split
 ·rfl
 ·exact pushM_now _ _
 ·exact pushM_now _ _
 ·split <;> exact popM_now _
 ·split <;> exact pushM_now _ _
 ·exact pushM_now _ _
 ·exact (pushM_now _ _).trans (twoM_now _)
 ·exact (pushM_now _ _).trans (twoM_now _)
 ·exact (pushM_now _ _).trans (twoM_now _)
 ·exact (pushM_now _ _).trans (twoM_now _)
 ·exact (pushM_now _ _).trans (twoM_now _)
 ·exact (pushM_now _ _).trans (popM_now _)
 ·exact (pushM_now _ _).trans (popM_now _)
 ·exact popM_now _
 ·exact (pushM_now _ _).trans (twoM_now _)
 ·rfl
 ·split <;> exact popM_now _
 ·exact refM_now _ _
 ·exact pushM_now _ _
 ·exact pushM_now _ _
 ·unfold outM
  split
  ·exact (sendM_now _ _ _ _).trans (twoM_now _)
  split
  ·exact (sendM_now _ _ _ _).trans (twoM_now _)
  split
  ·exact (remM_now _ _ _ _ _).trans (twoM_now _)
  split
  ·rfl
  ·rfl
def C39 : Contract := fun args hp K => match args, hp with
 | [.agg [.sl true 16 .str names, .sl true 16 (.pair (.int .i64) (.int .i64)) code], .agg [.arr 8 (.int .i64) st], .agg [.str f, .int .u64 s, .int .i64 k, .sl true 8 (.int .i64) xs], .int .i64 now], [] => (st : List Int).length = 8 ∧
   (formP names code = true ∧ f.size ≤ 40 ∧ (xs : List Int).length ≤ 4 ∧ 0 ≤ now) ∧ ∀ X, X = runI 501 (startM names code f s k xs now st) → (X.2 = 0 → K (.tup [resV X.1, .int .i64 0]) []) ∧ (X.2 ≠ 0 → K (.tup [resE X.1.steps, .int .i64 X.2]) [])
 | _, _ => False
def rcA (names : List ByteArray) (code : List EvT.den) (M : Mc) : SS := ⟨[(4, .ptr 0 0), (8, .ptr 1 0), (10, .ptr 2 0)], [.struct [.sl true 16 .str names, .sl true 16 EvT code], .struct [.arr 8 (.int .i64) z8, .nils, .nils, .nils, .int .i64 0],
 .struct [.sl true 16 .str M.names, .sl true 16 EvT M.code, .str M.f, .int .u64 M.s, .int .i64 M.k, .sl true 8 (.int .i64) M.args, .int .i64 M.now, .int .i64 M.pc, .own 3, .arr 8 (.int .i64) M.st, .own 4, .own 5, .own 6, .int .i64 M.steps],
 .row true 8 (.int .i64) M.stack, .row true 16 EvT M.ev, .row true 32 SentT M.sent, .row true 48 TimT M.tim]⟩
def L39 (names : List ByteArray) (code : List EvT.den) (args : List Int) (now : Int) (X : Mc × Int) : LoopAnn := { G := Mc, I := rcA names code, R := fun _ M => InvM names code args M ∧ M.done = false ∧ M.now = now ∧ runI (501 - M.steps.toNat) M = X, μ := fun M => 501 - M.steps.toNat }
theorem L39_I {names code args now X} (M : Mc) : (L39 names code args now X).I M = ⟨[(4, .ptr 0 0), (8, .ptr 1 0), (10, .ptr 2 0)], [.struct [.sl true 16 .str names, .sl true 16 EvT code], .struct [.arr 8 (.int .i64) z8, .nils, .nils, .nils, .int .i64 0],
 .struct [.sl true 16 .str M.names, .sl true 16 EvT M.code, .str M.f, .int .u64 M.s, .int .i64 M.k, .sl true 8 (.int .i64) M.args, .int .i64 M.now, .int .i64 M.pc, .own 3, .arr 8 (.int .i64) M.st, .own 4, .own 5, .own 6, .int .i64 M.steps],
 .row true 8 (.int .i64) M.stack, .row true 16 EvT M.ev, .row true 32 SentT M.sent, .row true 48 TimT M.tim]⟩ := rfl
theorem s39 : Sound Tryz.prog 39 C39 := by
  refine sound_of_okF ok39 (.cons s37 (callable_of_okF ok37) (.cons s77 (callable_of_okF ok77) (.cons s101 (callable_of_okF ok101) .nil))) ?_
  intro args hp K h
  unfold C39 at h
  split at h
  · rename_i names code st f s k xs now
    have hmx := maxLen_val
    obtain ⟨h8, ⟨hf, hl1, hl2, hnow⟩, h⟩ := h
    refine ⟨by simp, [(1, L39 names code xs now (runI 501 (startM names code f s k xs now st)))], ?_⟩
    simp (maxSteps:=9^9) only [a39, r39, C37, C77, C74, hf, decide_eq_true hl1, decide_eq_true hl2, go_sem, Nat.reduceLeDiff, Nat.reduceSub, Nat.reduceMul, Nat.reduceBEq, Nat.reduceAdd]
    refine sw_intro (fun _ => ?_) (fun h9 => by cases h9)
    rintro c rfl
    refine sw_intro (fun hn => ?_) (fun _ => ?_)
    · simp only [decide_eq_true_eq] at hn
      exact absurd hn (by omega)
    generalize hX : runI 501 (startM names code f s k xs now st) = X at *
    have h := h X rfl
    refine loop_intro (A := L39 names code xs now X) (startM names code f s k xs now st) ?_ ⟨startM_inv h8, rfl, rfl, hX⟩ ?_
    · simp (maxSteps:=9^9) only [L39_I, go_sem, Nat.reduceBEq, Nat.reduceAdd]
      rfl
    · rintro (M : Mc) ⟨(hM : InvM names code xs M), (hd : M.done = false), (hnw : M.now = now), (hR : runI (501 - M.steps.toNat) M = X)⟩
      simp (maxSteps:=9^9) only [L39_I, C101, rcH, go_sem, Nat.reduceLeDiff, Nat.reduceSub, Nat.reduceMul, Nat.reduceLT, Nat.reduceBEq, Nat.reduceAdd]
      have hlen : names.length ≤ 8 ∧ code.length ≤ 200 := (formP_iff.1 hf).1
      have hins : code.all (insOk names.length code.length) = true := (formP_iff.1 hf).2.2
      have hs := hM.steps
      have hpc := hM.pc
      have hcd := hM.code
      have eN : 501 - M.steps.toNat = (500 - M.steps.toNat) + 1 := by omega
      rw [eN] at hR
      rintro _ _ m rfl c rfl
      refine sw_intro (fun hl => ?_) (fun hl => ?_) <;> simp only [decide_eq_true_eq, decide_eq_false_iff_not] at hl
      case refine_2 =>
        rw [runI_end (.inr (by rw [hcd]; exact hl))] at hR
        subst hR
        exact h.1 rfl
      have hgo : ¬ (M.done = true ∨ ¬ (M.pc < (M.code.length : Int))) := by
        rintro (hh | hh)
        · rw [hd] at hh
          cases hh
        · exact hh (by rw [hcd]; exact hl)
      rintro c rfl
      refine sw_intro (fun h5 => ?_) (fun h5 => ?_) <;> simp only [decide_eq_true_eq, decide_eq_false_iff_not] at h5
      · rw [runI_budget hgo h5] at hR
        subst hR
        have h6 := h.2 (by show (11 : Int) ≠ 0; omega)
        rw [show ((M, (11 : Int)).1).steps = 500 from h5] at h6
        exact h6
      rintro _ _ m hm
      rw [w64 (by omega)] at hm
      subst m
      have hlt : M.pc.toNat < code.length := by omega
      have hel : elt EvT M.code M.pc.toNat = elt EvT code M.pc.toNat := by rw [hcd]
      rw [hel]
      have ho := insOk_arg (List.all_eq_true.1 hins _ (List.mem_of_getElem? (elt_get hlt)))
      have hev := hM.ev
      have hse := hM.sent
      have hti := hM.tim
      have hnx := hM.next hlen.2 hins hl h5
      have hfl := @runI_fail (500 - M.steps.toNat) M hgo h5
      have hnn := @runI_next (500 - M.steps.toNat) M hgo h5
      rw [hcd] at hfl hnn
      rw [hR] at hfl hnn
      have k4 : (iterM M (elt EvT code M.pc.toNat)).steps = M.steps + 1 := (stepN_k { M with steps := M.steps + 1, pc := M.pc + 1 } _ _).steps
      have k5 : (iterM M (elt EvT code M.pc.toNat)).now = M.now := stepN_now { M with steps := M.steps + 1, pc := M.pc + 1 } _ _
      refine ⟨⟨hM.stack, hM.st8, by show M.ev.length ≤ 1000; omega, by show M.sent.length ≤ 1000; omega, by show M.tim.length ≤ 1000; omega⟩, by omega, ⟨hpc.1, by rw [hcd]; exact hl, by rw [hcd]; omega⟩, ho.1, ?_, fun N hN => ?_⟩
      · obtain ⟨⟨ho1, ho2⟩, a1, a2, a3, a4⟩ := ho
        have en : ∀ n : Nat, (elt EvT code M.pc.toNat).1.toNat = n → (elt EvT code M.pc.toNat).1 = (n : Int) := fun n hn => toNat_is ho1 hn
        refine ⟨fun hh => a1 (hh.imp (en 2) (en 3)), fun hh => a2 (en 4 hh), fun hh => ?_⟩
        have h7 := a4 (hh.imp (en 17) (fun h8 => h8.imp (en 19) (en 20)))
        show 0 ≤ (elt EvT code M.pc.toNat).2 ∧ (elt EvT code M.pc.toNat).2 < (M.names.length : Int)
        rw [hM.names]
        exact h7
      · have eM := Mc.norm (M := { M with steps := M.steps + 1, pc := M.pc + 1 }) hM.ok hd
        have hI : N = iterM M (elt EvT code M.pc.toNat) := hN.trans (congrArg (fun Z => stepN Z (Int.toNat (elt EvT code M.pc.toNat).1) (elt EvT code M.pc.toNat).2) eM.symm)
        clear hN eM
        subst hI
        refine ⟨fun hz => ?_, fun hz N' hN' => ?_⟩
        · have hX2 := hnn (fun h9 => h9 hz)
          have hi := hnx (fun h9 => h9 hz)
          refine sw_intro (fun hq => ?_) (fun hq => ?_)
          · obtain ⟨n, en⟩ : ∃ n, 500 - M.steps.toNat = n + 1 := ⟨500 - M.steps.toNat - 1, by omega⟩
            rw [en, runI_end (.inl hq)] at hX2
            rw [hX2] at h
            exact h.1 rfl
          · refine lpE_intro (A := L39 names code xs now X) (iterM M (elt EvT code M.pc.toNat)) (by simp (maxSteps:=9^9) only [L39_I, go_sem, Nat.reduceBEq, Nat.reduceAdd]) ⟨hi, hq, k5.trans hnw, ?_⟩ ?_
            · rw [k4, hX2]
              congr 1
              omega
            · show 501 - (iterM M (elt EvT code M.pc.toNat)).steps.toNat < 501 - M.steps.toNat
              rw [k4]
              omega
        · have hX2 := hfl hz
          rw [hX2] at h
          have h6 := h.2 hz
          rintro c rfl
          refine sw_intro (fun _ => ?_) (fun h9 => absurd h9 (by simp [hz]))
          rw [hN', ← k4]
          exact h6
  · exact h.elim
end Go.V
namespace Go.V
open Go.Proofs
set_option maxRecDepth 100000
set_option maxHeartbeats 16000000
set_option linter.unusedSimpArgs false
set_option linter.unnecessarySimpa false
set_option linter.unusedVariables false
/-! ### the document's actor: copies, pop -/
def C99 : Contract := fun args hp K => match args with
 | [.ptr 0 0] => onJ hp fun b ev v => K (.ptr 2 0) (jH false b ev v ++ [.struct [.arr 8 (.int .i64) b, .own 3, .int .u64 v], .row true 16 EvT ev])
 | _ => False
theorem s99 : Sound Tryz.prog 99 C99 := by
 refine sound_of_okF ok99 .nil ?_
 intro args hp K h
 unfold C99 at h
 split at h
 ·obtain ⟨b, ev, v, rfl, h⟩ := h
  refine ⟨by simp, [], ?_⟩
  unfold jH at h ⊢
  simp (maxSteps:=9^9) only [a99, r99, go_sem, Nat.reduceLeDiff, Nat.reduceSub, Nat.reduceMul, Nat.reduceBEq, Nat.reduceAdd]
  exact ⟨fun h9 => h9, fun _ => h⟩
 ·exact h.elim
def C100 : Contract := fun args hp K => match args with
 | [.ptr 0 0] => onRf hp fun o L ls => K (.ptr 3 0) (rfH false false o L ls ++ [.struct [.str o, .own 4, .own 5], .row true 72 OutT L, .row true 24 LastT ls])
 | _ => False
def L100 (o : ByteArray) (L : List OutT.den) (ls : List LastT.den) : LoopAnn := cntA (fun i => ⟨[(0, .ptr 0 0), (3, .ptr 3 0), (21, .int .i64 L.length), (22, .int .i64 i)], rfH false false o L ls ++ [.struct [.str o, .own 4, .own 5], .row true 72 OutT (L.take i), .row true 24 LastT ls]⟩) L.length
theorem s100 : Sound Tryz.prog 100 C100 := by
 refine sound_of_okF ok100 (.cons s78 (callable_of_okF ok78) .nil) ?_
 intro args hp K h
 unfold C100 at h
 split at h
 ·obtain ⟨o, L, ls, rfl, h⟩ := h
  refine ⟨by simp, [(1, L100 o L ls)], ?_⟩
  have hmx := maxLen_val
  unfold rfH at h ⊢
  simp (maxSteps:=9^9) only [a100, r100, go_sem, Nat.reduceLeDiff, Nat.reduceSub, Nat.reduceMul, Nat.reduceBEq, Nat.reduceAdd]
  refine ⟨fun h9 => h9, fun _ => ?_⟩
  rintro _ _ m rfl
  refine loop_intro (A := L100 o L ls) (0 : Nat) ?_ (Nat.zero_le _) ?_
  ·simp (maxSteps:=9^9) only [L100, cntA_I, rfH, go_sem, Nat.reduceBEq, Nat.reduceAdd]
   rfl
  ·intro (i : Nat) (hi : i ≤ L.length)
   simp (maxSteps:=9^9) only [L100, cntA_I, rfH, C78, go_sem, Nat.reduceLeDiff, Nat.reduceSub, Nat.reduceMul, Nat.reduceLT, Nat.reduceBEq, Nat.reduceAdd]
   rintro c rfl
   refine sw_intro (fun hc => ?_) (fun hc => ?_) <;> simp only [decide_eq_true_eq, decide_eq_false_iff_not] at hc
   ·have hl2 : (L.take i).length = i := by rw [List.length_take]; omega
    rw [hl2]
    refine nd_intro hc ⟨fun _ => by omega, fun _ => ?_⟩
    rintro _ _ m hm
    rw [w64 (by omega)] at hm
    subst hm
    refine cntA_next hc ?_
    have e := take_elt (t := OutT) hc
    simp (maxSteps:=9^9) only [← e, go_sem, Nat.reduceBEq, Nat.reduceAdd]
    rfl
   ·rw [List.take_of_length_le (by omega)]
    exact h
 ·exact h.elim
def C41 : Contract := fun args hp K => match args with
 | [.ptr 0 0] => onIn hp fun l => ∃ f s k xs r, l = (f, s, k, xs) :: r ∧ l.length ≤ 1000 ∧ K (.tup [.agg [.str f, .int .u64 s, .int .i64 k, .sl true 8 (.int .i64) xs], .bool true]) (inH true r)
 | _ => False
theorem s41 : Sound Tryz.prog 41 C41 := by
 refine sound_of_okF ok41 .nil ?_
 intro args hp K h
 unfold C41 at h
 split at h
 ·obtain ⟨l, rfl, f, s, k, xs, r, rfl, hl, h⟩ := h
  refine ⟨by simp, [], ?_⟩
  have hmx := maxLen_val
  unfold inH at h ⊢
  simp only [List.length_cons] at hl
  simp (maxSteps:=9^9) only [a41, r41, go_sem, Int.reduceLE, Int.reduceToNat, Nat.reduceLeDiff, Nat.reduceSub, Nat.reduceMul, Nat.reduceBEq, Nat.reduceAdd]
  rintro _ _ m rfl c rfl
  refine sw_intro (fun h9 => ?_) (fun _ => ?_)
  ·simp only [decide_eq_true_eq] at h9
   exact absurd h9 (by omega)
  refine nd_intro (by omega) (nd_intro (by omega) ⟨fun h9 => h9, fun _ => ?_⟩)
  have e : List.take (r.length + 1 - 1) r = r := List.take_of_length_le (by omega)
  rw [e]
  exact h
 ·exact h.elim
def wcO (S : ActS) : List SB := [.struct [.ptr 9 0, .ptr 11 0, .ptr 13 0, .int .i64 S.tries, .own 16], .struct [.arr 8 (.int .i64) S.b, .own 10, .int .u64 S.v], .row true 16 EvT S.ev, .struct [.own 12], .row true 56 LetT S.inb,
 .struct [.str S.o, .own 14, .own 15], .row true 72 OutT S.l, .row true 24 LastT S.m, .row true 56 LetT S.poi]
def C38 : Contract := fun args hp K => match args with
 | [.ptr 0 0] => onW hp fun S => K (.ptr 8 0) (wcH false S ++ wcO S)
 | _ => False
theorem s38 : Sound Tryz.prog 38 C38 := by
 refine sound_of_okF ok38 (.cons s99 (callable_of_okF ok99) (.cons s28 (callable_of_okF ok28) (.cons s100 (callable_of_okF ok100) .nil))) ?_
 intro args hp K h
 unfold C38 at h
 split at h
 ·obtain ⟨S, rfl, h⟩ := h
  refine ⟨by simp, [], ?_⟩
  unfold wcH wcO at h
  unfold wcH
  simp (maxSteps:=9^9) only [a38, r38, C99, C28, C100, jH, rfH, go_sem, Nat.reduceLeDiff, Nat.reduceSub, Nat.reduceLT, Nat.reduceBEq, Nat.reduceAdd]
  exact ⟨rfl, Nat.zero_le _, Nat.zero_le _, h⟩
 ·exact h.elim
end Go.V
