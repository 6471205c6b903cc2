/- A part of the proof layer, or functions of the given program in it: contracts and their proofs. -/
import Derived.Test.YtkoakbgfpnhckaaGreatMN1
namespace Go.V
open Go.Proofs
set_option maxRecDepth 100000
set_option linter.unusedSimpArgs false
set_option linter.unnecessarySimpa false
set_option linter.unusedVariables false
abbrev ByT : Ty := .sl 1 .byte
abbrev LgT : Ty := .pair (.int .i64) (.sl 1 .byte)
def dkH (mv : Bool) (bl : List ByT.den) (lg : List LgT.den) (f : Int) (dn : Bool) : List SB :=
 [.struct [.own 1, .own 2, .int .i64 f, .bool dn], .row mv 24 (.sl 1 .byte) bl, .row mv 32 (.pair (.int .i64) (.sl 1 .byte)) lg]
def onDk (hp : List SB) (k : List ByT.den → List LgT.den → Int → Bool → Prop) : Prop := ∃ bl lg f dn, hp = dkH false bl lg f dn ∧ k bl lg f dn
@[go_sem] theorem onDk_eq {bl lg f dn k} : onDk [.struct [.own 1, .own 2, .int .i64 f, .bool dn], .row false 24 (.sl 1 .byte) bl, .row false 32 (.pair (.int .i64) (.sl 1 .byte)) lg] k = k bl lg f dn := by
 apply propext; constructor
 ·rintro ⟨bl', lg', f', dn', h, hk⟩
  unfold dkH at h
  cases h
  exact hk
 ·exact fun h => ⟨bl, lg, f, dn, rfl, h⟩
def onB (x : SV) (k : List UInt8 → Prop) : Prop := ∃ p xs, x = .sl p 1 .byte xs ∧ k xs
@[go_sem] theorem onB_sl {p k} {xs : List UInt8} : onB (.sl p 1 .byte (no_index xs)) k = k xs := by
 apply propext; constructor
 ·rintro ⟨_, _, h, hk⟩
  cases h; exact hk
 ·exact fun h => ⟨p, xs, rfl, h⟩
def onI (x : SV) (k : List Int → Prop) : Prop := ∃ p xs, x = .sl p 8 (.int .i64) xs ∧ k xs
@[go_sem] theorem onI_sl {p k} {xs : List Int} : onI (.sl p 8 (.int .i64) (no_index xs)) k = k xs := by
 apply propext; constructor
 ·rintro ⟨_, _, h, hk⟩
  cases h; exact hk
 ·exact fun h => ⟨p, xs, rfl, h⟩
theorem swd {p : Prop} [inst : Decidable p] {A B : Bool → Prop} (h1 : p → A true) (h2 : ¬ p → B false) : ∀ c : Bool, c = decide p → sw c (A c) (B c) := by
 rintro c rfl
 refine sw_intro (fun e => ?_) (fun e => ?_)
 ·have := of_decide_eq_true e; rw [e]; exact h1 this
 ·have := of_decide_eq_false e; rw [e]; exact h2 this
theorem swn {p : Prop} [inst : Decidable p] {A B : Bool → Prop} (h1 : ¬ p → A true) (h2 : p → B false) : ∀ c : Bool, c = !decide p → sw c (A c) (B c) := by
 rintro c rfl
 refine sw_intro (fun e => ?_) (fun e => ?_)
 ·have : ¬ p := by simpa using e
  rw [e]; exact h1 this
 ·have : p := by simpa using e
  rw [e]; exact h2 this
/-! ### the disk's small ones -/
def C56 : Contract := fun args hp K => match args with
 | [.nilp] => hp = [] ∧ K (.int .i64 0) []
 | [.ptr 0 0] => onDk hp fun bl lg f dn => bl.length ≤ maxLen → K (.int .i64 bl.length) (dkH false bl lg f dn)
 | _ => False
theorem s56 : Sound Tryz.prog 56 C56 := by
 refine sound_of_okF ok56 .nil ?_
 intro args hp K h
 unfold C56 at h
 split at h
 ·obtain ⟨rfl, h⟩ := h
  refine ⟨by simp, [], ?_⟩
  simp (maxSteps:=9^9) only [a56, r56, go_sem, Int.reduceLT, Int.reduceLE, Int.reduceEq, Int.reduceNe, Int.reduceAdd, Int.reduceSub, Int.reduceMul, Int.reduceToNat, Int.reduceNeg, Nat.reduceEqDiff, Nat.reduceLeDiff, Nat.reduceSub, Nat.reduceMul, Nat.reduceLT, Nat.reduceBEq, Nat.reduceAdd, Nat.reduceDiv, Nat.reduceMod]
  exact h
 ·obtain ⟨bl, lg, f, dn, rfl, h⟩ := h
  refine ⟨by simp, [], ?_⟩
  unfold dkH at h ⊢
  simp (maxSteps:=9^9) only [a56, r56, go_sem, Int.reduceLT, Int.reduceLE, Int.reduceEq, Int.reduceNe, Int.reduceAdd, Int.reduceSub, Int.reduceMul, Int.reduceToNat, Int.reduceNeg, Nat.reduceEqDiff, Nat.reduceLeDiff, Nat.reduceSub, Nat.reduceMul, Nat.reduceLT, Nat.reduceBEq, Nat.reduceAdd, Nat.reduceDiv, Nat.reduceMod]
  rintro hl _ n rfl
  exact h hl
 ·exact h.elim
def C23 : Contract := fun args hp K => match args with
 | [.ptr 0 0] => onDk hp fun bl lg f dn => K (.bool dn) (dkH false bl lg f dn)
 | _ => False
theorem s23 : Sound Tryz.prog 23 C23 := by
 refine sound_of_okF ok23 .nil ?_
 intro args hp K h
 unfold C23 at h
 split at h
 ·obtain ⟨bl, lg, f, dn, rfl, h⟩ := h
  refine ⟨by simp, [], ?_⟩
  unfold dkH at h ⊢
  simp (maxSteps:=9^9) only [a23, r23, go_sem, Int.reduceLT, Int.reduceLE, Int.reduceEq, Int.reduceNe, Int.reduceAdd, Int.reduceSub, Int.reduceMul, Int.reduceToNat, Int.reduceNeg, Nat.reduceEqDiff, Nat.reduceLeDiff, Nat.reduceSub, Nat.reduceMul, Nat.reduceLT, Nat.reduceBEq, Nat.reduceAdd, Nat.reduceDiv, Nat.reduceMod]
  exact h
 ·exact h.elim
def C31 : Contract := fun args hp K => match args with
 | [.nilp, .int .i64 fr, .int .i64 ct] => hp = [] ∧ K (.bool false) []
 | [.ptr 0 0, .int .i64 fr, .int .i64 ct] => onDk hp fun bl lg f dn => K (.bool (decide (1 ≤ ct ∧ 0 ≤ fr ∧ fr ≤ bl.length ∧ ct ≤ bl.length - fr))) (dkH false bl lg f dn)
 | _ => False
theorem s31 : Sound Tryz.prog 31 C31 := by
 refine sound_of_okF ok31 (.cons s56 (callable_of_okF ok56) .nil) ?_
 intro args hp K h
 unfold C31 at h
 split at h
 ·obtain ⟨rfl, h⟩ := h
  refine ⟨by simp, [], ?_⟩
  simp (maxSteps:=9^9) only [a31, r31, C56, go_sem, Int.reduceLT, Int.reduceLE, Int.reduceEq, Int.reduceNe, Int.reduceAdd, Int.reduceSub, Int.reduceMul, Int.reduceToNat, Int.reduceNeg, Nat.reduceEqDiff, Nat.reduceLeDiff, Nat.reduceSub, Nat.reduceMul, Nat.reduceLT, Nat.reduceBEq, Nat.reduceAdd, Nat.reduceDiv, Nat.reduceMod]
  exact h
 ·rename_i fr ct
  obtain ⟨bl, lg, f, dn, rfl, h⟩ := h
  refine ⟨by simp, [], ?_⟩
  unfold dkH at h ⊢
  simp (maxSteps:=9^9) only [a31, r31, C56, dkH, go_sem, Int.reduceLT, Int.reduceLE, Int.reduceEq, Int.reduceNe, Int.reduceAdd, Int.reduceSub, Int.reduceMul, Int.reduceToNat, Int.reduceNeg, Nat.reduceEqDiff, Nat.reduceLeDiff, Nat.reduceSub, Nat.reduceMul, Nat.reduceLT, Nat.reduceBEq, Nat.reduceAdd, Nat.reduceDiv, Nat.reduceMod]
  have hm := maxLen_val
  rintro c1 hc1
  refine sw_intro (fun e1 => ?_) (fun e1 => ?_)
  ·rintro c2 hc2
   refine sw_intro (fun e2 => ?_) (fun e2 => ?_)
   ·intro hl c3 hc3
    refine sw_intro (fun e3 => ?_) (fun e3 => ?_)
    ·intro _ hn hf m hm1 c4 hc4
     rw [e1, eq_comm, decide_eq_true_eq] at hc1
     rw [e2, eq_comm, decide_eq_true_eq] at hc2
     rw [e3, eq_comm, decide_eq_true_eq] at hc3
     rw [w64 (by omega)] at hm1
     have : c4 = decide (1 ≤ ct ∧ 0 ≤ fr ∧ fr ≤ bl.length ∧ ct ≤ bl.length - fr) := by
      rw [hc4, hm1]; apply decide_eq_decide.2; omega
     rw [this]; exact h
    ·rw [show decide (1 ≤ ct ∧ 0 ≤ fr ∧ fr ≤ bl.length ∧ ct ≤ bl.length - fr) = false from decide_eq_false (fun ⟨_, _, hx, _⟩ => by rw [e3, eq_comm, decide_eq_false_iff_not] at hc3; exact hc3 hx)] at h
     exact h
   ·rw [show decide (1 ≤ ct ∧ 0 ≤ fr ∧ fr ≤ bl.length ∧ ct ≤ bl.length - fr) = false from decide_eq_false (fun ⟨_, hx, _, _⟩ => by rw [e2, eq_comm, decide_eq_false_iff_not] at hc2; exact hc2 hx)] at h
    exact h
  ·rw [show decide (1 ≤ ct ∧ 0 ≤ fr ∧ fr ≤ bl.length ∧ ct ≤ bl.length - fr) = false from decide_eq_false (fun ⟨hx, _, _, _⟩ => by rw [e1, eq_comm, decide_eq_false_iff_not] at hc1; exact hc1 hx)] at h
   exact h
 ·exact h.elim
def C13 : Contract := fun args hp K => match args, hp with
 | [.int .i64 n], [] => (0 ≤ n ∧ n ≤ 65536) ∧ K (.ptr 0 0) (dkH true (List.replicate n.toNat []) [] (-1) false)
 | _, _ => False
theorem s13 : Sound Tryz.prog 13 C13 := by
 refine sound_of_okF ok13 .nil ?_
 intro args hp K h
 unfold C13 at h
 split at h
 ·rename_i n
  obtain ⟨hn, h⟩ := h
  refine ⟨by simp, [], ?_⟩
  simp (maxSteps:=9^9) only [a13, r13, go_sem, Int.reduceLT, Int.reduceLE, Int.reduceEq, Int.reduceNe, Int.reduceAdd, Int.reduceSub, Int.reduceMul, Int.reduceToNat, Int.reduceNeg, Nat.reduceEqDiff, Nat.reduceLeDiff, Nat.reduceSub, Nat.reduceMul, Nat.reduceLT, Nat.reduceBEq, Nat.reduceAdd, Nat.reduceDiv, Nat.reduceMod]
  rintro m hm m1 hm1
  have e : m1 = n := by rw [hm1, hm]; split <;> split <;> omega
  subst e
  exact ⟨by omega, h⟩
 ·exact h.elim
/-! ### lists -/
def C53 : Contract := fun args hp K => match args, hp with
 | [x], [] => onB x fun xs => K (.own 0) [.row true 1 .byte xs]
 | _, _ => False
theorem s53 : Sound Tryz.prog 53 C53 := by
 refine sound_of_okF ok53 .nil ?_
 intro args hp K h
 unfold C53 at h
 split at h
 ·obtain ⟨p, xs, rfl, h⟩ := h
  refine ⟨by simp, [], ?_⟩
  simp (maxSteps:=9^9) only [a53, r53, go_sem, Int.reduceLT, Int.reduceLE, Int.reduceEq, Int.reduceNe, Int.reduceAdd, Int.reduceSub, Int.reduceMul, Int.reduceToNat, Int.reduceNeg, Nat.reduceEqDiff, Nat.reduceLeDiff, Nat.reduceSub, Nat.reduceMul, Nat.reduceLT, Nat.reduceBEq, Nat.reduceAdd, Nat.reduceDiv, Nat.reduceMod]
  intro b hb
  refine sw_intro (fun h1 => ?_) (fun _ => ⟨id, fun _ => h⟩)
  rw [hb h1] at h; exact h
 ·exact h.elim
def C77 : Contract := fun args hp K => match args, hp with
 | [x, y], [] => onB x fun xs => onB y fun ys => K (.bool (decide (xs = ys))) []
 | _, _ => False
theorem bytes_eq {xs ys : List UInt8} : ((⟨xs.toArray⟩ : ByteArray) = ⟨ys.toArray⟩) ↔ xs = ys := by simp
theorem s77 : Sound Tryz.prog 77 C77 := by
 refine sound_of_okF ok77 .nil ?_
 intro args hp K h
 unfold C77 at h
 split at h
 ·obtain ⟨p, xs, rfl, q, ys, rfl, h⟩ := h
  refine ⟨by simp, [], ?_⟩
  simp (maxSteps:=9^9) only [a77, r77, go_sem, Int.reduceLT, Int.reduceLE, Int.reduceEq, Int.reduceNe, Int.reduceAdd, Int.reduceSub, Int.reduceMul, Int.reduceToNat, Int.reduceNeg, Nat.reduceEqDiff, Nat.reduceLeDiff, Nat.reduceSub, Nat.reduceMul, Nat.reduceLT, Nat.reduceBEq, Nat.reduceAdd, Nat.reduceDiv, Nat.reduceMod]
  rintro _ rfl _ rfl c rfl
  simp only [bytes_eq]
  exact h
 ·exact h.elim
def A47 (p : Bool) (xs : List Int) (n : Int) : LoopAnn := { G := Nat, I := fun i => ⟨[(0, .sl p 8 (.int .i64) xs), (1, .int .i64 n), (7, .int .i64 xs.length), (8, .int .i64 i)], []⟩, R := fun _ i => i ≤ xs.length ∧ n ∉ xs.take i, μ := fun i => xs.length - i }
theorem I47 (p xs n) (i : Nat) : (A47 p xs n).I i = ⟨[(0, .sl p 8 (.int .i64) xs), (1, .int .i64 n), (7, .int .i64 xs.length), (8, .int .i64 i)], []⟩ := rfl
def C78 : Contract := fun args hp K => match args, hp with
 | [x, .int .i64 n], [] => onI x fun xs => (n ∈ xs → ∀ i : Nat, K (.int .i64 i) []) ∧ (n ∉ xs → K (.int .i64 (-1)) [])
 | _, _ => False
theorem s78 : Sound Tryz.prog 78 C78 := by
 refine sound_of_okF ok78 .nil ?_
 intro args hp K h
 unfold C78 at h
 split at h
 ·rename_i x n
  obtain ⟨p, xs, rfl, h1, h2⟩ := h
  refine ⟨by simp, [(1, A47 p xs n)], ?_⟩
  simp (maxSteps:=9^9) only [a78, r78, go_sem, Int.reduceLT, Int.reduceLE, Int.reduceEq, Int.reduceNe, Int.reduceAdd, Int.reduceSub, Int.reduceMul, Int.reduceToNat, Int.reduceNeg, Nat.reduceEqDiff, Nat.reduceLeDiff, Nat.reduceSub, Nat.reduceMul, Nat.reduceLT, Nat.reduceBEq, Nat.reduceAdd, Nat.reduceDiv, Nat.reduceMod]
  intro _ _ m hm
  subst hm
  refine loop_intro (A := A47 p xs n) (0 : Nat) ?_ ⟨Nat.zero_le _, by simp⟩ ?_
  ·simp (maxSteps:=9^9) only [I47, go_sem, Int.reduceLT, Int.reduceLE, Int.reduceEq, Int.reduceNe, Int.reduceAdd, Int.reduceSub, Int.reduceMul, Int.reduceToNat, Int.reduceNeg, Nat.reduceEqDiff, Nat.reduceLeDiff, Nat.reduceSub, Nat.reduceMul, Nat.reduceLT, Nat.reduceBEq, Nat.reduceAdd, Nat.reduceDiv, Nat.reduceMod]
   rfl
  ·rintro (i : Nat) ⟨hi, hni⟩
   simp (maxSteps:=9^9) only [I47, go_sem, Int.reduceLT, Int.reduceLE, Int.reduceEq, Int.reduceNe, Int.reduceAdd, Int.reduceSub, Int.reduceMul, Int.reduceToNat, Int.reduceNeg, Nat.reduceEqDiff, Nat.reduceLeDiff, Nat.reduceSub, Nat.reduceMul, Nat.reduceLT, Nat.reduceBEq, Nat.reduceAdd, Nat.reduceDiv, Nat.reduceMod]
   rintro c rfl
   have hm := maxLen_val
   refine sw_intro (fun hc => ?_) (fun hc => ?_) <;> simp only [decide_eq_true_eq, decide_eq_false_iff_not] at hc
   ·have hlt : i < xs.length := by omega
    refine nd_intro hlt ?_
    rintro c hc2
    refine sw_intro (fun hc3 => ?_) (fun hc3 => ?_)
    ·rw [hc3, eq_comm, decide_eq_true_eq] at hc2
     refine h1 ?_ i
     rw [hc2]
     exact List.mem_of_getElem? (elt_get hlt)
    ·rw [hc3, eq_comm, decide_eq_false_iff_not] at hc2
     rintro _ _ m hm2
     rw [w64 (by omega)] at hm2
     subst hm2
     refine lpE_intro (A := A47 p xs n) (i + 1 : Nat) ?_ ⟨hlt, ?_⟩ ?_
     ·simp (maxSteps:=9^9) only [I47, go_sem, Int.reduceLT, Int.reduceLE, Int.reduceEq, Int.reduceNe, Int.reduceAdd, Int.reduceSub, Int.reduceMul, Int.reduceToNat, Int.reduceNeg, Nat.reduceEqDiff, Nat.reduceLeDiff, Nat.reduceSub, Nat.reduceMul, Nat.reduceLT, Nat.reduceBEq, Nat.reduceAdd, Nat.reduceDiv, Nat.reduceMod]
      rfl
     ·rw [← take_elt hlt, List.mem_append]
      rintro (hx | hx)
      ·exact hni hx
      ·simp only [List.mem_singleton] at hx; exact hc2 hx
     ·show xs.length - (i + 1) < xs.length - i
      omega
   ·have : i = xs.length := by omega
    subst this
    rw [List.take_length] at hni
    exact h2 hni
 ·exact h.elim
def C59 : Contract := fun args hp K => match args, hp with
 | [x, .int .i64 n], [] => onI x fun xs => K (.bool (decide (n ∈ xs))) []
 | _, _ => False
theorem s59 : Sound Tryz.prog 59 C59 := by
 refine sound_of_okF ok59 (.cons s78 (callable_of_okF ok78) .nil) ?_
 intro args hp K h
 unfold C59 at h
 split at h
 ·rename_i x n
  obtain ⟨p, xs, rfl, h⟩ := h
  refine ⟨by simp, [], ?_⟩
  simp (maxSteps:=9^9) only [a59, r59, C78, go_sem, Int.reduceLT, Int.reduceLE, Int.reduceEq, Int.reduceNe, Int.reduceAdd, Int.reduceSub, Int.reduceMul, Int.reduceToNat, Int.reduceNeg, Nat.reduceEqDiff, Nat.reduceLeDiff, Nat.reduceSub, Nat.reduceMul, Nat.reduceLT, Nat.reduceBEq, Nat.reduceAdd, Nat.reduceDiv, Nat.reduceMod]
  refine ⟨fun hx => ?_, fun hx => ?_⟩
  ·rw [decide_eq_true hx] at h
   exact h
  ·rw [decide_eq_false hx] at h
   exact h
 ·exact h.elim
end Go.V
namespace Go.V
open Go.Proofs
set_option maxRecDepth 100000
set_option linter.unusedSimpArgs false
set_option linter.unnecessarySimpa false
set_option linter.unusedVariables false
def sumS (x : Int) (c : UInt8) : Int := IntKind.u64.wrap (bitsI .xor .u64 x c.toNat * 1099511628211)
def sumF (bs : List UInt8) : Int := bs.foldl sumS 14695981039346656037
def C94 : Contract := fun args hp K => match args, hp with
 | [x], [] => onB x fun xs => K (.int .u64 (sumF xs)) []
 | _, _ => False
theorem s94 : Sound Tryz.prog 94 C94 := by
 refine sound_of_okF ok94 .nil ?_
 intro args hp K h
 unfold C94 at h
 split at h
 ·obtain ⟨p, xs, rfl, h⟩ := h
  refine ⟨by simp, [(1, cntA (fun i => ⟨[(3, .int .u64 (sumF (xs.take i))), (6, .sl p 1 .byte xs), (7, .int .i64 xs.length), (8, .int .i64 i)], []⟩) xs.length)], ?_⟩
  simp (maxSteps:=9^9) only [a94, r94, go_sem, Int.reduceLT, Int.reduceLE, Int.reduceEq, Int.reduceNe, Int.reduceAdd, Int.reduceSub, Int.reduceMul, Int.reduceToNat, Int.reduceNeg, Nat.reduceEqDiff, Nat.reduceLeDiff, Nat.reduceSub, Nat.reduceMul, Nat.reduceLT, Nat.reduceBEq, Nat.reduceAdd, Nat.reduceDiv, Nat.reduceMod]
  intro _ _ m hm
  subst hm
  refine loop_intro (A := cntA _ xs.length) (0 : Nat) ?_ (Nat.zero_le _) ?_
  ·simp (maxSteps:=9^9) only [cntA_I, go_sem, Int.reduceLT, Int.reduceLE, Int.reduceEq, Int.reduceNe, Int.reduceAdd, Int.reduceSub, Int.reduceMul, Int.reduceToNat, Int.reduceNeg, Nat.reduceEqDiff, Nat.reduceLeDiff, Nat.reduceSub, Nat.reduceMul, Nat.reduceLT, Nat.reduceBEq, Nat.reduceAdd, Nat.reduceDiv, Nat.reduceMod]
   rfl
  ·intro (i : Nat) (hi : i ≤ xs.length)
   simp (maxSteps:=9^9) only [cntA_I, go_sem, Int.reduceLT, Int.reduceLE, Int.reduceEq, Int.reduceNe, Int.reduceAdd, Int.reduceSub, Int.reduceMul, Int.reduceToNat, Int.reduceNeg, Nat.reduceEqDiff, Nat.reduceLeDiff, Nat.reduceSub, Nat.reduceMul, Nat.reduceLT, Nat.reduceBEq, Nat.reduceAdd, Nat.reduceDiv, Nat.reduceMod]
   rintro c rfl
   have hm := maxLen_val
   refine sw_intro (fun hc => ?_) (fun hc => ?_) <;> simp only [decide_eq_true_eq, decide_eq_false_iff_not] at hc
   ·have hlt : i < xs.length := by omega
    refine nd_intro hlt ?_
    rintro _ m0 hm0
    have h8 := UInt8.toNat_lt (elt .byte xs i)
    rw [wu64 (by omega)] at hm0
    rintro _ _ m1 hm1 _ _ m2 hm2 _ _ m3 hm3
    rw [w64 (by omega)] at hm3
    subst hm3
    refine cntA_next hlt ?_
    simp (maxSteps:=9^9) only [go_sem, Int.reduceLT, Int.reduceLE, Int.reduceEq, Int.reduceNe, Int.reduceAdd, Int.reduceSub, Int.reduceMul, Int.reduceToNat, Int.reduceNeg, Nat.reduceEqDiff, Nat.reduceLeDiff, Nat.reduceSub, Nat.reduceMul, Nat.reduceLT, Nat.reduceBEq, Nat.reduceAdd, Nat.reduceDiv, Nat.reduceMod]
    have e : m2 = sumF (xs.take (i + 1)) := by
     rw [← take_elt hlt, hm2, hm1, hm0]
     unfold sumF
     rw [List.foldl_append]
     rfl
    rw [e]
    rfl
   ·have : i = xs.length := by omega
    subst this
    rw [List.take_length]
    exact h
 ·exact h.elim
def bytesB (k n : Nat) : List UInt8 := (List.range k).map fun i => UInt8.ofNat (n / 2 ^ (8 * (k - 1 - i)))
theorem bytesB_length (k n : Nat) : (bytesB k n).length = k := by simp [bytesB]
theorem bytesB_get {k n i : Nat} (h : i < k) : (bytesB k n)[i]? = some (UInt8.ofNat (n / 2 ^ (8 * (k - 1 - i)))) := by simp [bytesB, h]
theorem u8w (x : Int) : IntKind.u8.wrap x = x % 256 := by
 simp [IntKind.wrap, IntKind.signed, IntKind.bits]
theorem byte_of {x : Int} {sh : Nat} (hx : 0 ≤ x) : UInt8.ofNat (IntKind.u8.wrap (x.fdiv (2 ^ sh))).toNat = UInt8.ofNat (x.toNat / 2 ^ sh) := by
 rw [u8w]
 obtain ⟨n, rfl⟩ := Int.eq_ofNat_of_zero_le hx
 have h2 : ((2 : Int) ^ sh) = ((2 ^ sh : Nat) : Int) := by simp
 rw [h2, Int.fdiv_eq_ediv_of_nonneg _ (Int.natCast_nonneg _), ← Int.natCast_ediv, Int.toNat_natCast]
 have e : ((((n / 2 ^ sh : Nat) : Int) % 256)).toNat = (n / 2 ^ sh) % 256 := by omega
 rw [e]
 apply UInt8.toNat_inj.1
 simp
theorem setL {α : Type} {l A B : List α} {x y : α} {n : Nat} (h : l = A ++ x :: B) (hn : n = A.length) : l.set n y = A ++ y :: B := by
 subst h hn; simp
theorem rep_succ {α : Type} (n : Nat) (x : α) (h : 1 ≤ n) : List.replicate n x = x :: List.replicate (n - 1) x := by
 obtain ⟨m, rfl⟩ : ∃ m, n = m + 1 := ⟨n - 1, by omega⟩
 rw [List.replicate_succ]; rfl
def sBody (kd : UInt8) (pl : Nat) (p : List UInt8) : List UInt8 := kd :: (bytesB 4 pl ++ (UInt8.ofNat p.length :: (p ++ List.replicate (242 - p.length) 0)))
def sealF (kd : UInt8) (pl : Nat) (p : List UInt8) : List UInt8 := bytesB 8 (sumF (sBody kd pl p)).toNat ++ sBody kd pl p
theorem sumF_in (bs : List UInt8) : 0 ≤ sumF bs ∧ sumF bs < 18446744073709551616 := by
 have key : ∀ (bs : List UInt8) (x : Int), 0 ≤ x ∧ x < 18446744073709551616 → 0 ≤ bs.foldl sumS x ∧ bs.foldl sumS x < 18446744073709551616 := by
  intro bs
  induction bs with
  | nil => intro x hx; exact hx
  | cons b r ih =>
   intro x hx
   rw [List.foldl_cons]
   apply ih
   unfold sumS
   have : ∀ y : Int, IntKind.u64.wrap y = y % 18446744073709551616 := fun y => by simp [IntKind.wrap, IntKind.signed, IntKind.bits]
   rw [this]
   omega
 exact key bs _ (by omega)
theorem seal_step {kd : UInt8} {B : List UInt8} {i : Nat} {v : UInt8} (hi : i < 4) (hB : B[i]? = some v) : (List.replicate 8 0 ++ kd :: (B.take i ++ List.replicate (247 - i) 0)).set (9 + i) v = List.replicate 8 0 ++ kd :: (B.take (i + 1) ++ List.replicate (247 - (i + 1)) 0) := by
 have hl : i < B.length := (List.getElem?_eq_some_iff.1 hB).1
 rw [rep_succ (247 - i) 0 (by omega), setL (A := List.replicate 8 0 ++ kd :: B.take i) (x := 0) (B := List.replicate (247 - i - 1) 0) (by simp) (by simp; omega), ← take_snoc hB]
 simp [show 247 - i - 1 = 247 - (i + 1) by omega]
theorem seal_len {kd v : UInt8} {B : List UInt8} (hB : B.length = 4) : (List.replicate 8 0 ++ kd :: (B ++ List.replicate 243 0)).set 13 v = List.replicate 8 0 ++ kd :: (B ++ v :: List.replicate 242 0) := by
 rw [setL (A := List.replicate 8 0 ++ kd :: B) (x := 0) (B := List.replicate 242 0) (by simp [show (243 : Nat) = 242 + 1 from rfl, List.replicate_succ]) (by simp [hB])]
 simp
theorem seal_cpy {kd v : UInt8} {B bs : List UInt8} (hB : B.length = 4) (hb : bs.length ≤ 242) : (List.replicate 8 0 ++ kd :: (B ++ v :: List.replicate 242 0)).take 14 ++ (bs ++ (List.replicate 8 0 ++ kd :: (B ++ v :: List.replicate 242 0)).drop (14 + bs.length)) =
  List.replicate 8 0 ++ kd :: (B ++ v :: (bs ++ List.replicate (242 - bs.length) 0)) := by
 have e : List.replicate 8 0 ++ kd :: (B ++ v :: List.replicate 242 0) = (List.replicate 8 0 ++ kd :: (B ++ [v])) ++ List.replicate 242 0 := by simp
 have hl : (List.replicate 8 0 ++ kd :: (B ++ [v])).length = 14 := by simp [hB]
 rw [e, List.take_append_of_le_length (by omega), List.take_of_length_le (by omega), List.drop_append, hl, List.drop_of_length_le (by omega), List.nil_append, List.drop_replicate, show 14 + bs.length - 14 = bs.length by omega]
 simp
theorem sBody_length {kd : UInt8} {pl : Nat} {bs : List UInt8} (hb : bs.length ≤ 242) : (sBody kd pl bs).length = 248 := by
 simp [sBody, bytesB_length]; omega
theorem sum_step {B C : List UInt8} {i : Nat} {v : UInt8} (hi : i < 8) (hB : B[i]? = some v) : (B.take i ++ (List.replicate (8 - i) 0 ++ C)).set i v = B.take (i + 1) ++ (List.replicate (8 - (i + 1)) 0 ++ C) := by
 have hl : i < B.length := (List.getElem?_eq_some_iff.1 hB).1
 rw [rep_succ (8 - i) 0 (by omega), setL (A := B.take i) (x := 0) (B := List.replicate (8 - i - 1) 0 ++ C) (by simp) (by simp; omega), ← take_snoc hB]
 simp [show 8 - i - 1 = 8 - (i + 1) by omega]
def L76a (bs : List UInt8) (kd : UInt8) (pl : Nat) (p : Bool) : LoopAnn := cntA (fun i => ⟨[(1, .int .u32 pl), (2, .sl p 1 .byte bs), (8, .own 0), (19, .int .i64 i)], [.row true 1 .byte (List.replicate 8 0 ++ kd :: ((bytesB 4 pl).take i ++ List.replicate (247 - i) 0))]⟩) 4
def L76b (B : List UInt8) (x : Nat) : LoopAnn := cntA (fun i => ⟨[(8, .own 0), (10, .int .u64 x), (45, .int .i64 i)], [.row true 1 .byte ((bytesB 8 x).take i ++ (List.replicate (8 - i) 0 ++ B))]⟩) 8
def C76 : Contract := fun args hp K => match args, hp with
 | [.int .u8 k, .int .u32 pl, x], [] => onB x fun bs => bs.length ≤ 242 ∧ (0 ≤ pl ∧ pl ≤ 4294967295) ∧ K (.tup [.own 0, .int .i64 0]) [.row true 1 .byte (sealF (UInt8.ofNat k.toNat) pl.toNat bs)]
 | _, _ => False
theorem s76 : Sound Tryz.prog 76 C76 := by
 refine sound_of_okF ok76 (.cons s94 (callable_of_okF ok94) .nil) ?_
 intro args hp K h
 unfold C76 at h
 split at h
 ·rename_i k pl x
  obtain ⟨p, bs, rfl, hb, ⟨hp0, hp1⟩, h⟩ := h
  obtain ⟨pn, rfl⟩ := Int.eq_ofNat_of_zero_le hp0
  rw [Int.toNat_natCast] at h
  refine ⟨by simp, [(1, L76a bs (UInt8.ofNat k.toNat) pn p), (2, L76b (sBody (UInt8.ofNat k.toNat) pn bs) (sumF (sBody (UInt8.ofNat k.toNat) pn bs)).toNat)], ?_⟩
  simp (maxSteps:=9^9) only [a76, r76, C94, go_sem, Int.reduceLT, Int.reduceLE, Int.reduceEq, Int.reduceNe, Int.reduceAdd, Int.reduceSub, Int.reduceMul, Int.reduceToNat, Int.reduceNeg, Nat.reduceEqDiff, Nat.reduceLeDiff, Nat.reduceSub, Nat.reduceMul, Nat.reduceLT, Nat.reduceBEq, Nat.reduceAdd, Nat.reduceDiv, Nat.reduceMod]
  rintro _ _ n rfl
  rintro c hc
  refine sw_intro (fun h1 => by rw [h1, eq_comm, decide_eq_true_eq] at hc; omega) (fun _ => ?_)
  clear hc
  generalize hkd : UInt8.ofNat k.toNat = kd at *
  refine ⟨by omega, nd_intro (by simp) (nd_intro (by simp) ?_)⟩
  have e0 : (List.replicate 256 Ty.byte.dflt).set 8 kd = List.replicate 8 0 ++ kd :: ((bytesB 4 pn).take 0 ++ List.replicate (247 - 0) 0) :=
   setL (A := List.replicate 8 0) (B := List.replicate 247 0) (x := 0) rfl rfl
  rw [e0]
  refine loop_intro (A := L76a bs kd pn p) (0 : Nat) ?_ (Nat.zero_le _) ?_
  ·simp (maxSteps:=9^9) only [L76a, cntA_I, go_sem, Int.reduceLT, Int.reduceLE, Int.reduceEq, Int.reduceNe, Int.reduceAdd, Int.reduceSub, Int.reduceMul, Int.reduceToNat, Int.reduceNeg, Nat.reduceEqDiff, Nat.reduceLeDiff, Nat.reduceSub, Nat.reduceMul, Nat.reduceLT, Nat.reduceBEq, Nat.reduceAdd, Nat.reduceDiv, Nat.reduceMod]
   rfl
  ·intro (i : Nat) (hi : i ≤ 4)
   simp (maxSteps:=9^9) only [L76a, cntA_I, C94, go_sem, Int.reduceLT, Int.reduceLE, Int.reduceEq, Int.reduceNe, Int.reduceAdd, Int.reduceSub, Int.reduceMul, Int.reduceToNat, Int.reduceNeg, Nat.reduceEqDiff, Nat.reduceLeDiff, Nat.reduceSub, Nat.reduceMul, Nat.reduceLT, Nat.reduceBEq, Nat.reduceAdd, Nat.reduceDiv, Nat.reduceMod]
   rintro c rfl
   refine sw_intro (fun hc => ?_) (fun hc => ?_) <;> simp only [decide_eq_true_eq, decide_eq_false_iff_not] at hc
   ·have hlt : i < 4 := by omega
    rintro _ _ m hm _ _ m1 hm1 _ _ m2 hm2
    rw [w64 (by omega)] at hm hm1
    subst hm1
    rw [w64 (by omega)] at hm2
    refine ⟨by omega, fun _ _ _ m3 hm3 => ?_⟩
    rintro _ m4 hm4
    have hll : (List.replicate 8 0 ++ kd :: ((bytesB 4 pn).take i ++ List.replicate (247 - i) 0)).length = 256 := by simp [bytesB_length]; omega
    rw [hll]
    refine nd_intro (by omega) (nd_intro (by omega) ?_)
    rintro _ _ m5 hm5
    rw [w64 (by omega)] at hm5
    subst hm5
    refine cntA_next hlt ?_
    simp (maxSteps:=9^9) only [go_sem, Int.reduceLT, Int.reduceLE, Int.reduceEq, Int.reduceNe, Int.reduceAdd, Int.reduceSub, Int.reduceMul, Int.reduceToNat, Int.reduceNeg, Nat.reduceEqDiff, Nat.reduceLeDiff, Nat.reduceSub, Nat.reduceMul, Nat.reduceLT, Nat.reduceBEq, Nat.reduceAdd, Nat.reduceDiv, Nat.reduceMod]
    have hm2' : m2.toNat = 8 * (4 - 1 - i) := by omega
    have hv : UInt8.ofNat m4.toNat = UInt8.ofNat (pn / 2 ^ (8 * (4 - 1 - i))) := by
     rw [hm4, hm3, hm2', Nat.min_eq_left (by omega), byte_of hp0, Int.toNat_natCast]
    rw [hv, show m.toNat = 9 + i by omega, seal_step hlt (bytesB_get hlt)]
    rfl
   ·have : i = 4 := by omega
    subst this
    rw [List.take_of_length_le (by rw [bytesB_length]; exact Nat.le_refl _)]
    rintro _ _ n hn _ m hm
    have h4 : (bytesB 4 pn).length = 4 := bytesB_length 4 pn
    have hv : UInt8.ofNat m.toNat = UInt8.ofNat bs.length := by
     rw [hm, hn, u8w]
     apply UInt8.toNat_inj.1
     simp
     omega
    rw [hv, show 247 - 4 = 243 from rfl, seal_len h4, seal_cpy h4 hb]
    have hl1 : (List.replicate 8 0 ++ kd :: (bytesB 4 pn ++ List.replicate 243 0)).length = 256 := by simp [h4]
    have hl2 : (List.replicate 8 0 ++ kd :: (bytesB 4 pn ++ UInt8.ofNat bs.length :: List.replicate 242 0)).length = 256 := by simp [h4]
    have hl3 : (List.replicate 8 0 ++ kd :: (bytesB 4 pn ++ UInt8.ofNat bs.length :: (bs ++ List.replicate (242 - bs.length) 0))).length = 256 := by simp [h4]; omega
    rw [hl1, hl2, hl3]
    refine nd_intro (by omega) (nd_intro (by omega) (nd_intro (by omega) ⟨by omega, nd_intro (by omega) ⟨rfl, ?_⟩⟩))
    have hsb : ((List.replicate 8 0 ++ kd :: (bytesB 4 pn ++ UInt8.ofNat bs.length :: (bs ++ List.replicate (242 - bs.length) 0))).drop 8).take (256 - 8) = sBody kd pn bs := by
     rw [List.drop_append, List.drop_of_length_le (by simp), List.length_replicate, List.nil_append, Nat.sub_self, List.drop_zero]
     exact List.take_of_length_le (by rw [show kd :: (bytesB 4 pn ++ UInt8.ofNat bs.length :: (bs ++ List.replicate (242 - bs.length) 0)) = sBody kd pn bs from rfl, sBody_length hb]; omega)
    have hin := sumF_in (sBody kd pn bs)
    obtain ⟨xs, hxs⟩ := Int.eq_ofNat_of_zero_le hin.1
    rw [hsb, hxs, Int.toNat_natCast]
    unfold sealF at h
    rw [hxs, Int.toNat_natCast] at h
    generalize hB : sBody kd pn bs = B at *
    have eB : kd :: (bytesB 4 pn ++ UInt8.ofNat bs.length :: (bs ++ List.replicate (242 - bs.length) 0)) = B := hB
    rw [eB]
    refine loop_intro (A := L76b B xs) (0 : Nat) ?_ (Nat.zero_le _) ?_
    ·simp (maxSteps:=9^9) only [L76b, cntA_I, go_sem, Int.reduceLT, Int.reduceLE, Int.reduceEq, Int.reduceNe, Int.reduceAdd, Int.reduceSub, Int.reduceMul, Int.reduceToNat, Int.reduceNeg, Nat.reduceEqDiff, Nat.reduceLeDiff, Nat.reduceSub, Nat.reduceMul, Nat.reduceLT, Nat.reduceBEq, Nat.reduceAdd, Nat.reduceDiv, Nat.reduceMod]
     rfl
    ·intro (i : Nat) (hi : i ≤ 8)
     simp (maxSteps:=9^9) only [L76b, cntA_I, go_sem, Int.reduceLT, Int.reduceLE, Int.reduceEq, Int.reduceNe, Int.reduceAdd, Int.reduceSub, Int.reduceMul, Int.reduceToNat, Int.reduceNeg, Nat.reduceEqDiff, Nat.reduceLeDiff, Nat.reduceSub, Nat.reduceMul, Nat.reduceLT, Nat.reduceBEq, Nat.reduceAdd, Nat.reduceDiv, Nat.reduceMod]
     rintro c rfl
     have hBl : B.length = 248 := by rw [← hB]; exact sBody_length hb
     refine sw_intro (fun hc => ?_) (fun hc => ?_) <;> simp only [decide_eq_true_eq, decide_eq_false_iff_not] at hc
     ·have hlt : i < 8 := by omega
      rintro _ _ m1 hm1 _ _ m2 hm2
      rw [w64 (by omega)] at hm1
      subst hm1
      rw [w64 (by omega)] at hm2
      refine ⟨by omega, fun _ _ _ m3 hm3 => ?_⟩
      rintro _ m4 hm4
      have hll : ((bytesB 8 xs).take i ++ (List.replicate (8 - i) 0 ++ B)).length = 256 := by simp [bytesB_length]; omega
      rw [hll]
      refine nd_intro (by omega) ?_
      rintro _ _ m5 hm5
      rw [w64 (by omega)] at hm5
      subst hm5
      refine cntA_next hlt ?_
      simp (maxSteps:=9^9) only [go_sem, Int.reduceLT, Int.reduceLE, Int.reduceEq, Int.reduceNe, Int.reduceAdd, Int.reduceSub, Int.reduceMul, Int.reduceToNat, Int.reduceNeg, Nat.reduceEqDiff, Nat.reduceLeDiff, Nat.reduceSub, Nat.reduceMul, Nat.reduceLT, Nat.reduceBEq, Nat.reduceAdd, Nat.reduceDiv, Nat.reduceMod]
      have hm2' : m2.toNat = 8 * (8 - 1 - i) := by omega
      have hv : UInt8.ofNat m4.toNat = UInt8.ofNat (xs / 2 ^ (8 * (8 - 1 - i))) := by
       rw [hm4, hm3, hm2', Nat.min_eq_left (by omega), byte_of (Int.natCast_nonneg _), Int.toNat_natCast]
      rw [hv, sum_step hlt (bytesB_get hlt)]
      rfl
     ·have : i = 8 := by omega
      subst this
      rw [List.take_of_length_le (by rw [bytesB_length]; exact Nat.le_refl _)]
      exact h
 ·exact h.elim
end Go.V
namespace Go.V
open Go.Proofs
set_option maxRecDepth 100000
set_option linter.unusedSimpArgs false
set_option linter.unnecessarySimpa false
set_option linter.unusedVariables false
def openF (kd : UInt8) (pl : Nat) (blk : List UInt8) : Option (List UInt8) :=
 if blk.length = 256 ∧ (elt .byte blk 13).toNat ≤ 242 then
  (if sealF kd pl ((blk.drop 14).take (elt .byte blk 13).toNat) = blk then some ((blk.drop 14).take (elt .byte blk 13).toNat) else none)
 else none
def C58 : Contract := fun args hp K => match args, hp with
 | [.int .u8 k, .int .u32 pl, x], [] => onB x fun bs => (0 ≤ pl ∧ pl ≤ 4294967295) ∧ K (.tup [.own 0, .bool (openF (UInt8.ofNat k.toNat) pl.toNat bs).isSome]) [.row true 1 .byte ((openF (UInt8.ofNat k.toNat) pl.toNat bs).getD [])]
 | _, _ => False
theorem s58 : Sound Tryz.prog 58 C58 := by
 refine sound_of_okF ok58 (.cons s76 (callable_of_okF ok76) (.cons s53 (callable_of_okF ok53) (.cons s77 (callable_of_okF ok77) .nil))) ?_
 intro args hp K h
 unfold C58 at h
 split at h
 ·rename_i k pl x
  obtain ⟨p, bs, rfl, hpl, h⟩ := h
  refine ⟨by simp, [], ?_⟩
  simp (maxSteps:=9^9) only [a58, r58, C76, C53, C77, go_sem, Int.reduceLT, Int.reduceLE, Int.reduceEq, Int.reduceNe, Int.reduceAdd, Int.reduceSub, Int.reduceMul, Int.reduceToNat, Int.reduceNeg, Nat.reduceEqDiff, Nat.reduceLeDiff, Nat.reduceSub, Nat.reduceMul, Nat.reduceLT, Nat.reduceBEq, Nat.reduceAdd, Nat.reduceDiv, Nat.reduceMod]
  rintro hl1 hl2 n rfl
  have none : ∀ b, (∀ q, openF (UInt8.ofNat k.toNat) pl.toNat bs = some q → False) → b = false → K (.tup [.own 0, .bool b]) [.row true 1 .byte []] := by
   intro b hn hb
   have e : openF (UInt8.ofNat k.toNat) pl.toNat bs = Option.none := by
    cases hq : openF (UInt8.ofNat k.toNat) pl.toNat bs with
    | none => rfl
    | some q => exact (hn q hq).elim
   rw [e] at h
   rw [hb]
   exact h
  have h8 := UInt8.toNat_lt (elt .byte bs 13)
  refine swn (fun e => none false (fun q hq => ?_) rfl) (fun e => ?_)
  ·unfold openF at hq
   rw [if_neg (fun hx => e (by omega))] at hq
   cases hq
  ·have e : bs.length = 256 := by omega
   refine nd_intro (by omega) (nd_intro (by omega) ?_)
   rintro _ m hm
   rw [w64 (by omega)] at hm
   subst hm
   refine swd (fun e2 => none false (fun q hq => ?_) rfl) (fun e2 => ?_)
   ·unfold openF at hq
    rw [if_neg (fun hx => by omega)] at hq
    cases hq
   ·refine nd_intro (by omega) (nd_intro (by omega) ?_)
    rintro _ m hm _ _ m1 hm1
    rw [w64 (by omega)] at hm
    subst hm
    rw [w64 (by omega)] at hm1
    subst hm1
    refine nd_intro (by omega) ?_
    intro ys hys
    have hn : (14 + ((elt .byte bs 13).toNat : Int)).toNat - 14 = (elt .byte bs 13).toNat := by omega
    rw [hn] at hys
    refine ⟨by rw [hys, List.length_take]; omega, hpl, rfl, ?_⟩
    subst hys
    unfold openF at h
    rw [if_pos ⟨e, by omega⟩] at h
    refine sw_intro (fun e3 => ?_) (fun e3 => ?_)
    ·rw [if_pos (of_decide_eq_true e3)] at h
     exact h
    ·rw [if_neg (of_decide_eq_false e3)] at h
     exact h
 ·exact h.elim
def C57 : Contract := fun args hp K => match args with
 | [.ptr 0 0, .int .i64 i] => onDk hp fun bl lg f dn =>
   (dn = true → K (.tup [.own 3, .int .i64 9]) (dkH false bl lg f dn ++ [.row true 1 .byte []])) ∧
   (dn = false → (0 ≤ i ∧ i < bl.length) ∧ K (.tup [.own 3, .int .i64 0]) (dkH false bl lg f dn ++ [.row true 1 .byte (elt ByT bl i.toNat)]) ∧
    (elt ByT bl i.toNat = [] → K (.tup [.own 3, .int .i64 0]) (dkH false bl lg f dn ++ [.row true 1 .byte (List.replicate 256 0)])))
 | _ => False
theorem s57 : Sound Tryz.prog 57 C57 := by
 refine sound_of_okF ok57 (.cons s53 (callable_of_okF ok53) .nil) ?_
 intro args hp K h
 unfold C57 at h
 split at h
 ·rename_i i
  obtain ⟨bl, lg, f, dn, rfl, h1, h2⟩ := h
  refine ⟨by simp, [], ?_⟩
  unfold dkH at h1 h2 ⊢
  simp (maxSteps:=9^9) only [a57, r57, C53, go_sem, Int.reduceLT, Int.reduceLE, Int.reduceEq, Int.reduceNe, Int.reduceAdd, Int.reduceSub, Int.reduceMul, Int.reduceToNat, Int.reduceNeg, Nat.reduceEqDiff, Nat.reduceLeDiff, Nat.reduceSub, Nat.reduceMul, Nat.reduceLT, Nat.reduceBEq, Nat.reduceAdd, Nat.reduceDiv, Nat.reduceMod]
  refine sw_intro (fun hd => h1 hd) (fun hd => ?_)
  obtain ⟨⟨hi0, hi1⟩, h3, h4⟩ := h2 hd
  refine swd (fun e => by omega) (fun _ => ?_)
  rintro _ _ m rfl
  refine swd (fun e => by omega) (fun _ => ?_)
  refine nd_intro ⟨hi0, hi1⟩ (nd_intro (by omega) ?_)
  intro b hb
  refine sw_intro (fun e => ⟨by omega, h4 (hb e)⟩) (fun _ => nd_intro ⟨hi0, hi1⟩ (nd_intro (by omega) h3))
 ·exact h.elim
end Go.V
