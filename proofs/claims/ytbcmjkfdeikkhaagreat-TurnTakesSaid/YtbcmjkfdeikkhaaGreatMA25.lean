/- A part of the proof layer, or functions of the given program in it: contracts and their proofs. -/
import Derived.Test.YtbcmjkfdeikkhaaGreatMA21
import Derived.Test.YtbcmjkfdeikkhaaGreatR2
import Derived.Test.YtbcmjkfdeikkhaaGreatMN3
namespace Go.V
open Go.Proofs
set_option maxRecDepth 100000
set_option linter.unusedSimpArgs false
set_option linter.unnecessarySimpa false
set_option linter.unusedVariables false
def keysE (m : List (ByteArray × Int)) (ks : List ByteArray) : List UInt8 := ks.flatMap fun k => textB k ++ numB ((lookM .str (.int .u64) m k).getD (0 : Int))
def outsE (l : List OutT.den) : List UInt8 := l.flatMap fun x => textB x.1 ++ textB ⟨(letB x.2).toArray⟩
def outE (o : ByteArray) (l : List OutT.den) (m : List (ByteArray × Int)) : List UInt8 :=
 textB o ++ numB m.length ++ keysE m (srtK (vt := .int .u64) m) ++ numB l.length ++ outsE l
structure OutOk (o : ByteArray) (l : List OutT.den) (m : List (ByteArray × Int)) : Prop where
 o0 : o ≠ ByteArray.empty
 o40 : o.size ≤ 40
 m64 : m.length ≤ 64
 k40 : ∀ y ∈ m, y.1.size ≤ 40
 l32 : l.length ≤ 32
 x40 : ∀ y ∈ l, y.1.size ≤ 40 ∧ y.2.1.size ≤ 40 ∧ y.2.2.2.2.length ≤ 4
theorem textB_len (s : ByteArray) (h : s.size ≤ 40) : (textB s).length ≤ 49 := by have := textB_length s; omega
theorem keysE_snoc (m : List (ByteArray × Int)) (ks : List ByteArray) (k : ByteArray) : keysE m (ks ++ [k]) = keysE m ks ++ textB k ++ numB ((lookM .str (.int .u64) m k).getD (0 : Int)) := by simp [keysE]
theorem outsE_snoc (l : List OutT.den) (x : OutT.den) : outsE (l ++ [x]) = outsE l ++ textB x.1 ++ textB ⟨(letB x.2).toArray⟩ := by simp [outsE]
theorem keysE_len (m : List (ByteArray × Int)) (ks : List ByteArray) (h : ∀ k ∈ ks, k.size ≤ 40) : (keysE m ks).length ≤ 58 * ks.length := by
 induction ks with
 | nil => simp [keysE]
 | cons k r ih =>
  have ih := ih (fun y hy => h y (List.mem_cons_of_mem _ hy))
  have h1 := textB_len k (h k (by simp))
  have h2 := (numB_length ((lookM .str (.int .u64) m k).getD (0 : Int))).2
  simp only [keysE, List.flatMap_cons, List.length_append, List.length_cons] at ih ⊢
  omega
theorem outsE_len (l : List OutT.den) (h : ∀ x ∈ l, x.1.size ≤ 40 ∧ x.2.1.size ≤ 40 ∧ x.2.2.2.2.length ≤ 4) : (outsE l).length ≤ 300 * l.length := by
 induction l with
 | nil => simp [outsE]
 | cons x r ih =>
  have ih := ih (fun y hy => h y (List.mem_cons_of_mem _ hy))
  have h0 := h x (by simp)
  have h1 := textB_len x.1 h0.1
  have h2 := textB_length ⟨(letB x.2).toArray⟩
  have h3 := letB_length x.2
  have h4 : (⟨(letB x.2).toArray⟩ : ByteArray).size = (letB x.2).length := by show (letB x.2).toArray.size = _; simp
  simp only [outsE, List.flatMap_cons, List.length_append, List.length_cons] at ih ⊢
  omega
def rng (l : List OutT.den) : Prop := ∀ x ∈ l, in64 x.2.2.2.1 ∧ inI x.2.2.2.2
def C34 : Contract := fun args hp K => match args with
 | [.ptr 0 0] => onOb hp fun o l m => OutOk o l m ∧ (rng l → K (.own 3) (obH false o l m ++ [.row true 1 .byte (outE o l m)]))
 | _ => False
def L34 (o : ByteArray) (l : List OutT.den) (m : List (ByteArray × Int)) : LoopAnn := cntA (fun i => ⟨[(0, .ptr 0 0), (3, .ptr 3 0), (32, .own 5), (33, .int .i64 m.length), (34, .int .i64 i)],
 obH false o l m ++ [.struct [.own 4], .row true 1 .byte (textB o ++ numB m.length ++ keysE m ((srtK (vt := .int .u64) m).take i)), .row true 16 .str (srtK (vt := .int .u64) m)]⟩) m.length
def M34 (o : ByteArray) (l : List OutT.den) (m : List (ByteArray × Int)) : LoopAnn := { G := Nat, I := fun i => ⟨[(3, .ptr 3 0), (61, .own 1), (62, .int .i64 l.length), (63, .int .i64 i)],
 obH false o l m ++ [.struct [.own 4], .row true 1 .byte (textB o ++ numB m.length ++ keysE m (srtK (vt := .int .u64) m) ++ numB l.length ++ outsE (l.take i))]⟩, R := fun _ i => i ≤ l.length ∧ rng (l.take i), μ := fun i => l.length - i }
theorem M34_I {o l m} (i : Nat) : (M34 o l m).I i = ⟨[(3, .ptr 3 0), (61, .own 1), (62, .int .i64 l.length), (63, .int .i64 i)],
 obH false o l m ++ [.struct [.own 4], .row true 1 .byte (textB o ++ numB m.length ++ keysE m (srtK (vt := .int .u64) m) ++ numB l.length ++ outsE (l.take i))]⟩ := rfl
theorem s34 : Sound Tryz.prog 34 C34 := by
 refine sound_of_okF ok34 (.cons s79 (callable_of_okF ok79) (.cons s58 (callable_of_okF ok58) (.cons s62 (callable_of_okF ok62) (.cons s59 (callable_of_okF ok59) (.cons s96 (callable_of_okF ok96) (.cons s95 ⟨_, Tryz.func95, rfl, by decide⟩ (.cons s97 (callable_of_okF ok97) (.cons s63 (callable_of_okF ok63) .nil)))))))) ?_
 intro args hp K h
 unfold C34 at h
 split at h
 ·obtain ⟨o, l, m, rfl, ok, h⟩ := h
  refine ⟨by simp, [(1, L34 o l m), (2, M34 o l m)], ?_⟩
  unfold obH at h ⊢
  simp (maxSteps:=9^9) only [a34, r34, C79, C58, C62, C59, C96, C95, wrH, go_sem, Nat.reduceLeDiff, Nat.reduceSub, Nat.reduceLT, Nat.reduceBEq, Nat.reduceAdd]
  have hsl := srtK_length (vt := .int .u64) m
  have b1 := textB_len o ok.o40
  have b2 := (numB_length (m.length : Int)).2
  have b3 := (numB_length (l.length : Int)).2
  have hk : ∀ k ∈ srtK (vt := .int .u64) m, k.size ≤ 40 := fun k hk => by
   obtain ⟨y, hy, rfl⟩ := srtK_mem hk
   exact ok.k40 y hy
  have b4 : ∀ i, (keysE m ((srtK (vt := .int .u64) m).take i)).length ≤ 58 * 64 := fun i => by
   have h1 := keysE_len m ((srtK (vt := .int .u64) m).take i) (fun k h => hk k (List.mem_of_mem_take h))
   have h2 : ((srtK (vt := .int .u64) m).take i).length ≤ 64 := by have := ok.m64; rw [List.length_take]; omega
   omega
  have b5 : ∀ i, (outsE (l.take i)).length ≤ 300 * 32 := fun i => by
   have h1 := outsE_len (l.take i) (fun k h => ok.x40 k (List.mem_of_mem_take h))
   have h2 : (l.take i).length ≤ 32 := by have := ok.l32; rw [List.length_take]; omega
   omega
  refine sw_intro (fun h => absurd (by simpa using h) ok.o0) (fun _ => ⟨by have := ok.o40; omega, ?_⟩)
  rintro _ n rfl _ n1 hn1
  have hm := ok.m64
  rw [wu64 (by omega)] at hn1
  subst hn1
  refine ⟨by omega, by omega, ?_⟩
  rintro _ _ n2 rfl
  rw [hsl]
  refine loop_intro (A := L34 o l m) (0 : Nat) ?_ (Nat.zero_le _) ?_
  ·simp (maxSteps:=9^9) only [L34, cntA_I, obH, go_sem, Nat.reduceBEq, Nat.reduceAdd]
   simp [keysE]
  ·intro (i : Nat) (hi : i ≤ m.length)
   simp (maxSteps:=9^9) only [L34, cntA_I, obH, C62, C59, wrH, go_sem, Nat.reduceLeDiff, Nat.reduceSub, Nat.reduceLT, Nat.reduceBEq, Nat.reduceAdd]
   have hb4 := b4 i
   rintro c rfl
   refine sw_intro (fun hc => ?_) (fun hc => ?_) <;> simp only [decide_eq_true_eq, decide_eq_false_iff_not] at hc
   ·have hlt : i < (srtK (vt := .int .u64) m).length := by omega
    have hks : ByteArray.size (elt Ty.str (srtK (vt := .int .u64) m) i) ≤ 40 := hk _ (by
     have := elt_get (t := .str) hlt
     exact List.mem_of_getElem? this)
    have hkt := textB_len _ hks
    refine nd_intro hlt ⟨by simp only [List.length_append]; omega, ?_⟩
    rintro y b rfl _
    refine ⟨by simp only [List.length_append]; omega, ?_⟩
    rintro _ _ n2 hn2
    rw [w64 (by omega)] at hn2
    subst hn2
    refine cntA_next hc ?_
    simp (maxSteps:=9^9) only [go_sem, Nat.reduceBEq, Nat.reduceAdd]
    rw [← take_elt (t := .str) hlt, keysE_snoc]
    simp only [List.append_assoc]
    rfl
   ·obtain rfl : i = m.length := by omega
    have et : List.take m.length (srtK (vt := .int .u64) m) = srtK (vt := .int .u64) m := List.take_of_length_le (by omega)
    rw [et] at hb4 ⊢
    have hl := ok.l32
    rintro _ _ n rfl _ n1 hn1
    rw [wu64 (by omega)] at hn1
    subst hn1
    refine ⟨by simp only [List.length_append]; omega, ?_⟩
    rintro _ _ n2 rfl
    refine loop_intro (A := M34 o l m) (0 : Nat) ?_ ⟨Nat.zero_le _, fun x hx => by simp at hx⟩ ?_
    ·simp (maxSteps:=9^9) only [M34_I, obH, go_sem, Nat.reduceBEq, Nat.reduceAdd]
     simp [outsE]
    ·intro (i : Nat) (hi : i ≤ l.length ∧ rng (l.take i))
     obtain ⟨hi, hin⟩ := hi
     simp (maxSteps:=9^9) only [M34_I, obH, C62, C97, C63, wrH, go_sem, Nat.reduceLeDiff, Nat.reduceSub, Nat.reduceLT, Nat.reduceBEq, Nat.reduceAdd]
     have hb5 := b5 i
     rintro c rfl
     refine sw_intro (fun hc => ?_) (fun hc => ?_) <;> simp only [decide_eq_true_eq, decide_eq_false_iff_not] at hc
     ·have hx := ok.x40 (elt OutT l i) (List.mem_of_getElem? (elt_get hc))
      have ht := textB_len _ hx.1
      have hb := letB_length (elt OutT l i).2
      refine nd_intro hc ⟨by simp only [List.length_append]; omega, hx.2.1, hx.2.2, ?_⟩
      rintro hx64 u rfl
      refine ⟨?_, ?_⟩
      ·have hu : ∀ l : List UInt8, (⟨l.toArray⟩ : ByteArray).size = l.length := fun l => by show l.toArray.size = _; simp
       rw [hu]
       simp only [List.length_append]
       have := hb
       show _ + (letB (elt OutT l i).2).length ≤ _
       omega
      ·rintro _ _ n2 hn2
       rw [w64 (by omega)] at hn2
       subst hn2
       refine lpE_intro (A := M34 o l m) (i + 1 : Nat) ?_ ⟨hc, fun x hx => ?_⟩ (by show l.length - (i + 1) < l.length - i; omega)
       rotate_left
       ·rw [← take_elt (t := OutT) hc] at hx
        rcases List.mem_append.1 hx with hx | hx
        ·exact hin x hx
        ·simp only [List.mem_singleton] at hx
         subst hx
         exact hx64
       simp (maxSteps:=9^9) only [M34_I, obH, go_sem, Nat.reduceBEq, Nat.reduceAdd]
       rw [← take_elt (t := OutT) hc, outsE_snoc]
       simp only [List.append_assoc]
       rfl
     ·obtain rfl : i = l.length := by omega
      rw [List.take_length] at hin ⊢
      exact h hin
 ·exact h.elim
end Go.V
namespace Go.V
open Go.Proofs
set_option maxRecDepth 100000
set_option linter.unusedSimpArgs false
set_option linter.unnecessarySimpa false
set_option linter.unusedVariables false
def A47 (o : ByteArray) (l : List OutT.den) (m : List (ByteArray × Int)) : LoopAnn := {
 G := Nat
 I := fun i => ⟨[(3, .own 3), (11, .own 1), (12, .int .i64 l.length), (13, .int .i64 i)], [.struct [.str o, .own 1, .mp 2], .row false 72 OutT l, .map false .str (.int .u64) m, .row true 72 OutT (l.take i)]⟩
 R := fun _ i => i ≤ l.length
 μ := fun i => l.length - i }
theorem I47 (o l m) (i : Nat) : (A47 o l m).I i = ⟨[(3, .own 3), (11, .own 1), (12, .int .i64 l.length), (13, .int .i64 i)], [.struct [.str o, .own 1, .mp 2], .row false 72 OutT l, .map false .str (.int .u64) m, .row true 72 OutT (l.take i)]⟩ := rfl
def C47 : Contract := fun args hp K => match args with
 | [.ptr 0 0] => onOb hp fun o l m => o ≠ ByteArray.empty ∧ K (.own 3) (hp ++ [.row true 72 OutT l])
 | _ => False
theorem s47 : Sound Tryz.prog 47 C47 := by
 refine sound_of_okF ok47 (.cons s79 (callable_of_okF ok79) (.cons s75 (callable_of_okF ok75) .nil)) ?_
 intro args hp K h
 unfold C47 at h
 split at h
 ·obtain ⟨o, l, m, rfl, h0, h⟩ := h
  refine ⟨by simp, [(1, A47 o l m)], ?_⟩
  unfold obH at h ⊢
  simp (maxSteps:=9^9) only [a47, r47, C79, go_sem, Nat.reduceSub, Nat.reduceLT, Nat.reduceBEq, Nat.reduceAdd]
  refine sw_intro (fun h => absurd (by simpa using h) h0) (fun _ => ?_)
  intro hl1 hl2 n hn
  refine loop_intro (A := A47 o l m) (0 : Nat) ?_ (Nat.zero_le _) ?_
  ·subst hn
   simp (maxSteps:=9^9) only [I47, go_sem, Nat.reduceBEq, Nat.reduceAdd]
   rfl
  ·intro (i : Nat) (hi : i ≤ l.length)
   simp (maxSteps:=9^9) only [I47, C75, go_sem, Nat.reduceLeDiff, Nat.reduceSub, Nat.reduceMul, Nat.reduceLT, Nat.reduceBEq, Nat.reduceAdd]
   rintro c rfl
   refine sw_intro (fun hc => ?_) (fun hc => ?_)
   ·have hlt : i < l.length := by simp at hc; exact hc
    refine nd_intro hlt ⟨fun _ => ?_, ?_⟩
    ·rw [List.length_take]; omega
    ·rintro _ _ _ i' hi'
     rw [w64 (by have := maxLen_val; omega)] at hi'
     subst hi'
     refine lpE_intro (A := A47 o l m) (i + 1 : Nat) ?_ hlt ?_
     ·simp (maxSteps:=9^9) only [I47, go_sem, Nat.reduceBEq, Nat.reduceAdd]
      have e := take_eltO hlt
      rw [e]
      rfl
     ·show l.length - (i + 1) < l.length - i
      omega
   ·have : i = l.length := by simp at hc; omega
    subst this
    rw [List.take_length]
    exact h
 ·exact h.elim
end Go.V
namespace Go.V
open Go.Proofs
set_option maxRecDepth 100000
set_option linter.unusedSimpArgs false
set_option linter.unnecessarySimpa false
set_option linter.unusedVariables false
abbrev LastT : Ty := .pair .str (.int .u64)
def rfH (m1 m2 : Bool) (o : ByteArray) (L : List OutT.den) (ls : List LastT.den) : List SB :=
 [.struct [.str o, .own 1, .own 2], .row m1 72 OutT L, .row m2 24 LastT ls]
def onRf (hp : List SB) (k : ByteArray → List OutT.den → List LastT.den → Prop) : Prop := ∃ o L ls, hp = rfH false false o L ls ∧ k o L ls
@[go_sem] theorem onRf_eq {o L ls k} : onRf [.struct [.str o, .own 1, .own 2], .row false 72 (.pair .str (.pair .str (.pair (.int .u64) (.pair (.int .i64) (.sl 8 (.int .i64)))))) L, .row false 24 (.pair .str (.int .u64)) ls] k = k o L ls := by
 apply propext; constructor
 ·rintro ⟨o', l', m', h, hk⟩
  unfold rfH at h
  cases h
  exact hk
 ·exact fun h => ⟨o, L, ls, rfl, h⟩
def placeF (ls : List LastT.den) (to : ByteArray) : Nat := (ls.takeWhile fun x => ltS x.1 to).length
def thereL (ls : List LastT.den) (to : ByteArray) : Option Int :=
 match ls[placeF ls to]? with
 | some x => if x.1 = to then some x.2 else none
 | none => none
def setF (ls : List LastT.den) (to : ByteArray) (s : Int) : List LastT.den :=
 if (thereL ls to).isSome then ls.set (placeF ls to) (to, s) else ls.take (placeF ls to) ++ ((to, s) :: ls.drop (placeF ls to))
theorem placeF_le (ls : List LastT.den) (to : ByteArray) : placeF ls to ≤ ls.length := (List.takeWhile_sublist _).length_le
theorem placeF_eq {to : ByteArray} : ∀ {ls : List LastT.den} {n : Nat}, (∀ j x, j < n → ls[j]? = some x → ltS x.1 to = true) → n ≤ ls.length → (∀ x, ls[n]? = some x → ltS x.1 to = false) → placeF ls to = n
 | [], n, _, h, _ => by simp at h; subst h; rfl
 | y :: ls, 0, _, _, h => by
  have := h y rfl
  simp [placeF, this]
 | y :: ls, n + 1, h1, h2, h3 => by
  have hy := h1 0 y (by omega) rfl
  have := placeF_eq (ls := ls) (n := n) (fun j x hj hx => h1 (j + 1) x (by omega) (by simpa using hx)) (by simpa using h2) (fun x hx => h3 x (by simpa using hx))
  unfold placeF at this ⊢
  rw [List.takeWhile_cons, if_pos hy, List.length_cons, this]
def C82 : Contract := fun args hp K => match args, hp with
 | [.str s], [] => K (.bool (keyOk s)) []
 | _, _ => False
theorem keyOk_eq (s : ByteArray) : keyOk s = (decide (1 ≤ s.size) && decide (s.size ≤ 40)) := by
 unfold keyOk
 congr 1
 apply decide_eq_decide.2
 constructor
 ·intro h
  rcases Nat.eq_zero_or_pos s.size with h0 | h0
  ·exfalso; apply h
   have : s.data = #[] := Array.eq_empty_of_size_eq_zero h0
   cases s; simp at this; subst this; rfl
  ·exact h0
 ·rintro h rfl
  have h' : 1 ≤ 0 := h
  omega
theorem s82 : Sound Tryz.prog 82 C82 := by
 refine sound_of_okF ok82 .nil ?_
 intro args hp K h
 unfold C82 at h
 split at h
 ·rename_i s
  refine ⟨by simp, [], ?_⟩
  simp (maxSteps:=9^9) only [a82, r82, go_sem, Nat.reduceBEq]
  intro _ n hn c hc
  refine sw_intro (fun hc1 => ?_) (fun hc1 => ?_)
  ·intro _ m hm c' hc'
   have h1 : 1 ≤ s.size := by simp [hc1, hn] at hc; omega
   have e : keyOk s = c' := by rw [keyOk_eq, hc', hm]; simp [h1]; omega
   rw [← e]; exact h
  ·have e : keyOk s = false := by
    have h1 : ¬ 1 ≤ s.size := by simp [hc1, hn] at hc; omega
    rw [keyOk_eq]; simp [h1]
   rw [← e]; exact h
 ·exact h.elim
def C76 : Contract := fun args hp K => match args, hp with
 | [.str s], [] => (keyOk s = true → K (.tup [.ptr 0 0, .int .i64 0]) (rfH true true s [] [])) ∧ (keyOk s = false → K (.tup [.nilp, .int .i64 1]) [])
 | _, _ => False
theorem s76 : Sound Tryz.prog 76 C76 := by
 refine sound_of_okF ok76 (.cons s82 (callable_of_okF ok82) .nil) ?_
 intro args hp K h
 unfold C76 at h
 split at h
 ·rename_i s
  refine ⟨by simp, [], ?_⟩
  simp (maxSteps:=9^9) only [a76, r76, C82, go_sem, Nat.reduceLeDiff, Nat.reduceSub, Nat.reduceBEq, Nat.reduceAdd]
  exact sw_intro h.1 h.2
 ·exact h.elim
def C78 : Contract := fun args hp K => match args, hp with
 | [.agg [.str f, .int .u64 s, .int .i64 k, x]], [] => onL (.int .i64) 8 x fun xs => K (.agg [.str f, .int .u64 s, .int .i64 k, .own 0]) [.row true 8 (.int .i64) xs]
 | _, _ => False
theorem s78 : Sound Tryz.prog 78 C78 := by
 refine sound_of_okF ok78 .nil ?_
 intro args hp K h
 unfold C78 at h
 split at h
 ·refine ⟨by simp, [], ?_⟩
  rcases h with ⟨rfl, h⟩ | ⟨p, xs, rfl, h⟩
  ·simp (maxSteps:=9^9) only [a78, r78, go_sem, Nat.reduceLeDiff, Nat.reduceSub, Nat.reduceMul, Nat.reduceBEq, Nat.reduceAdd]
   exact h
  ·simp (maxSteps:=9^9) only [a78, r78, go_sem, Nat.reduceLeDiff, Nat.reduceSub, Nat.reduceMul, Nat.reduceBEq, Nat.reduceAdd]
   exact ⟨id, fun _ => h⟩
 ·exact h.elim
def A104 (o : ByteArray) (L : List OutT.den) (ls : List LastT.den) (to : ByteArray) : LoopAnn := {
 G := Nat
 I := fun n => ⟨[(0, .ptr 0 0), (1, .str to), (5, .int .i64 n)], [.struct [.str o, .own 1, .own 2], .row false 72 OutT L, .row false 24 LastT ls]⟩
 R := fun _ n => n ≤ ls.length ∧ ∀ j x, j < n → ls[j]? = some x → ltS x.1 to = true
 μ := fun n => ls.length - n }
theorem I104 (o L ls to) (n : Nat) : (A104 o L ls to).I n = ⟨[(0, .ptr 0 0), (1, .str to), (5, .int .i64 n)], [.struct [.str o, .own 1, .own 2], .row false 72 OutT L, .row false 24 LastT ls]⟩ := rfl
def C104 : Contract := fun args hp K => match args with
 | [.ptr 0 0, .str to] => onRf hp fun o L ls => K (.int .i64 (placeF ls to)) hp
 | _ => False
theorem s104 : Sound Tryz.prog 104 C104 := by
  refine sound_of_okF ok104 .nil ?_
  intro args hp K h
  unfold C104 at h
  split at h
  · rename_i to
    obtain ⟨o, L, ls, rfl, h⟩ := h
    refine ⟨by simp, [(1, A104 o L ls to)], ?_⟩
    unfold rfH at h ⊢
    simp (maxSteps:=9^9) only [a104, r104, go_sem, Nat.reduceLeDiff, Nat.reduceSub, Nat.reduceBEq, Nat.reduceAdd]
    refine loop_intro (A := A104 o L ls to) (0 : Nat) ?_ ⟨Nat.zero_le _, fun j x hj => absurd hj (by omega)⟩ ?_
    · simp (maxSteps:=9^9) only [I104, go_sem, Nat.reduceBEq, Nat.reduceAdd]
      rfl
    · rintro (n : Nat) ⟨hn, hlt⟩
      simp (maxSteps:=9^9) only [I104, go_sem, Nat.reduceLeDiff, Nat.reduceSub, Nat.reduceBEq, Nat.reduceAdd]
      rintro hl1 _ m rfl c rfl
      refine sw_intro (fun hc => ?_) (fun hc => ?_)
      · have hlt' : n < ls.length := by simp at hc; omega
        refine nd_intro hlt' ?_
        intro c' hc'
        have hx := elt_get (t := LastT) hlt'
        refine sw_intro (fun hc1 => ?_) (fun hc1 => ?_)
        · intro _ _ m hm
          have := maxLen_val
          rw [w64 (by omega)] at hm
          subst hm
          refine lpE_intro (A := A104 o L ls to) (n + 1 : Nat) ?_ ⟨hlt', fun j y hj hy => ?_⟩ ?_
          · simp (maxSteps:=9^9) only [I104, go_sem, Nat.reduceBEq, Nat.reduceAdd]
            rfl
          · by_cases hjn : j < n
            · exact hlt j y hjn hy
            · have : j = n := by omega
              subst this
              rw [hx] at hy; cases hy
              rw [← hc', hc1]
          · show ls.length - (n + 1) < ls.length - n
            omega
        · rw [← placeF_eq hlt hn (fun y hy => by rw [hx] at hy; cases hy; rw [← hc', hc1])]
          exact h
      · have hn' : n = ls.length := by simp at hc; omega
        rw [← placeF_eq hlt hn (fun y hy => by rw [hn'] at hy; simp at hy)]
        exact h
  · exact h.elim
def C83 : Contract := fun args hp K => match args with
 | [.ptr 0 0, .str to] => onRf hp fun o L ls => K (.bool (thereL ls to).isSome) hp
 | _ => False
theorem s83 : Sound Tryz.prog 83 C83 := by
 refine sound_of_okF ok83 (.cons s104 (callable_of_okF ok104) .nil) ?_
 intro args hp K h
 unfold C83 at h
 split at h
 ·rename_i to
  obtain ⟨o, L, ls, rfl, h⟩ := h
  refine ⟨by simp, [], ?_⟩
  unfold rfH at h ⊢
  simp (maxSteps:=9^9) only [a83, r83, C104, go_sem, Nat.reduceLeDiff, Nat.reduceSub, Nat.reduceLT, Nat.reduceBEq, Nat.reduceAdd]
  rintro _ _ m rfl c rfl
  refine sw_intro (fun hc => ?_) (fun hc => ?_)
  ·have hlt : placeF ls to < ls.length := by simp at hc; omega
   refine nd_intro hlt ?_
   intro c hc
   have e : (thereL ls to).isSome = c := by
    unfold thereL
    rw [elt_get (t := LastT) hlt]
    simp only
    by_cases h : (elt LastT ls (placeF ls to)).1 = to <;> simp [h, hc]
   rw [e] at h; exact h
  ·have hge : ls[placeF ls to]? = none := List.getElem?_eq_none (by simp at hc; omega)
   have e : (thereL ls to).isSome = false := by unfold thereL; rw [hge]; rfl
   rw [e] at h; exact h
 ·exact h.elim
theorem there_get {ls : List LastT.den} {to : ByteArray} (h : (thereL ls to).isSome = true) : ∃ s : Int, ls[placeF ls to]? = some (to, s) ∧ thereL ls to = some s ∧ placeF ls to < ls.length := by
 unfold thereL at h ⊢
 cases hx : ls[placeF ls to]? with
 | none => rw [hx] at h; cases h
 | some x =>
  rw [hx] at h
  simp only at h ⊢
  by_cases hto : x.1 = to
  ·obtain ⟨a, b⟩ := x
   simp only at hto
   subst hto
   exact ⟨b, rfl, by simp, (List.getElem?_eq_some_iff.1 hx).1⟩
  ·simp [hto] at h
def C50 : Contract := fun args hp K => match args with
 | [.ptr 0 0, .str to] => onRf hp fun o L ls => K (.int .u64 ((thereL ls to).getD (0 : Int))) hp
 | _ => False
theorem s50 : Sound Tryz.prog 50 C50 := by
 refine sound_of_okF ok50 (.cons s104 (callable_of_okF ok104) (.cons s83 (callable_of_okF ok83) .nil)) ?_
 intro args hp K h
 unfold C50 at h
 split at h
 ·rename_i to
  obtain ⟨o, L, ls, rfl, h⟩ := h
  refine ⟨by simp, [], ?_⟩
  unfold rfH at h ⊢
  simp (maxSteps:=9^9) only [a50, r50, C104, C83, go_sem, Nat.reduceLeDiff, Nat.reduceSub, Nat.reduceLT, Nat.reduceBEq, Nat.reduceAdd]
  refine sw_intro (fun hc => ?_) (fun hc => ?_)
  ·obtain ⟨s, hx, hs, hlt⟩ := there_get hc
   refine nd_intro hlt ?_
   rw [elt_eq (t := LastT) hx]
   rw [hs] at h
   exact h
  ·have e : thereL ls to = none := by
    cases h : thereL ls to with
    | none => rfl
    | some x => rw [h] at hc; cases hc
   rw [e] at h
   exact h
 ·exact h.elim
def A48 (o : ByteArray) (L : List OutT.den) (ls : List LastT.den) : LoopAnn := {
 G := Nat
 I := fun n => ⟨[(0, .ptr 0 0), (3, .own 3), (9, .int .i64 ls.length), (10, .int .i64 n)], [.struct [.str o, .own 1, .own 2], .row false 72 OutT L, .row false 24 LastT ls, .row true 16 .str ((ls.take n).map fun x => x.1)]⟩
 R := fun _ n => n ≤ ls.length
 μ := fun n => ls.length - n }
theorem I48 (o L ls) (n : Nat) : (A48 o L ls).I n = ⟨[(0, .ptr 0 0), (3, .own 3), (9, .int .i64 ls.length), (10, .int .i64 n)], [.struct [.str o, .own 1, .own 2], .row false 72 OutT L, .row false 24 LastT ls, .row true 16 .str ((ls.take n).map fun x => x.1)]⟩ := rfl
def C48 : Contract := fun args hp K => match args with
 | [.ptr 0 0] => onRf hp fun o L ls => K (.own 3) (hp ++ [.row true 16 .str (ls.map fun x => x.1)])
 | _ => False
theorem s48 : Sound Tryz.prog 48 C48 := by
 refine sound_of_okF ok48 .nil ?_
 intro args hp K h
 unfold C48 at h
 split at h
 ·obtain ⟨o, L, ls, rfl, h⟩ := h
  refine ⟨by simp, [(1, A48 o L ls)], ?_⟩
  unfold rfH at h ⊢
  simp (maxSteps:=9^9) only [a48, r48, go_sem, Nat.reduceLeDiff, Nat.reduceSub, Nat.reduceBEq, Nat.reduceAdd]
  rintro hl1 hl2 m rfl
  refine loop_intro (A := A48 o L ls) (0 : Nat) ?_ (Nat.zero_le _) ?_
  ·simp (maxSteps:=9^9) only [I48, go_sem, Nat.reduceBEq, Nat.reduceAdd]
   rfl
  ·intro (n : Nat) (hn : n ≤ ls.length)
   simp (maxSteps:=9^9) only [I48, go_sem, Nat.reduceLeDiff, Nat.reduceSub, Nat.reduceMul, Nat.reduceBEq, Nat.reduceAdd]
   rintro c rfl
   refine sw_intro (fun hc => ?_) (fun hc => ?_)
   ·have hlt : n < ls.length := by simp at hc; exact hc
    refine nd_intro hlt ⟨fun _ => ?_, ?_⟩
    ·rw [List.length_map, List.length_take]; omega
    ·rintro _ _ _ m hm
     have := maxLen_val
     rw [w64 (by omega)] at hm
     subst hm
     refine lpE_intro (A := A48 o L ls) (n + 1 : Nat) ?_ hlt ?_
     ·simp (maxSteps:=9^9) only [I48, go_sem, Nat.reduceBEq, Nat.reduceAdd]
      have e : List.map (fun x : LastT.den => x.1) (List.take n ls) ++ [(elt LastT ls n).1] = List.map (fun x : LastT.den => x.1) (List.take (n + 1) ls) := by
       rw [← take_elt hlt, List.map_append]; rfl
      rw [e]
      rfl
     ·show ls.length - (n + 1) < ls.length - n
      omega
   ·have : n = ls.length := by simp at hc; omega
    subst this
    rw [List.take_length]
    exact h
 ·exact h.elim
def C84 : Contract := fun args hp K => match args with
 | [.ptr 0 0, .str to, .int .u64 s] => onRf hp fun o L ls => (ls.length + 1) * 24 ≤ 140737488355328 ∧ K (.tup []) (rfH false true o L (setF ls to s))
 | _ => False
theorem s84 : Sound Tryz.prog 84 C84 := by
 refine sound_of_okF ok84 (.cons s104 (callable_of_okF ok104) (.cons s83 (callable_of_okF ok83) .nil)) ?_
 intro args hp K h
 unfold C84 at h
 split at h
 ·rename_i to s
  obtain ⟨o, L, ls, rfl, hb, h⟩ := h
  refine ⟨by simp, [], ?_⟩
  unfold rfH at h ⊢
  simp (maxSteps:=9^9) only [a84, r84, C104, C83, go_sem, Int.reduceToNat, Nat.reduceLeDiff, Nat.reduceSub, Nat.reduceMul, Nat.reduceLT, Nat.reduceBEq, Nat.reduceAdd]
  refine sw_intro (fun hc => ?_) (fun hc => ?_)
  ·obtain ⟨s0, hx, hs, hlt⟩ := there_get hc
   refine nd_intro hlt ?_
   rw [elt_eq (t := LastT) hx]
   have e : setF ls to s = ls.set (placeF ls to) (to, s) := by unfold setF; rw [if_pos hc]
   rw [e] at h
   exact h
  ·have hle := placeF_le ls to
   refine nd_intro hle ⟨id, fun _ => ⟨fun _ => ?_, fun _ => ?_⟩⟩
   ·simp only [List.length_take, List.length_drop]; omega
   ·refine nd_intro hle ?_
    refine ⟨fun _ _ => ?_, fun _ => ?_⟩
    ·simp only [List.length_take, List.length_drop, List.length_append, List.length_cons, List.length_nil]; omega
    ·have e : setF ls to s = List.take (placeF ls to - 0) (List.drop 0 ls) ++ [(to, s)] ++ List.take (ls.length - placeF ls to) (List.drop (placeF ls to) ls) := by
      unfold setF
      rw [if_neg (by simp [hc]), Nat.sub_zero, List.drop_zero, List.take_of_length_le (l := List.drop (placeF ls to) ls) (by simp)]
      simp
     rw [e] at h
     exact h
 ·exact h.elim
def C25 : Contract := fun args hp K => match args with
  | [.ptr 0 0, .str to, .int .i64 kind, x] => onRf hp fun o L ls => onL (.int .i64) 8 x fun xs => L.length ≤ 100 ∧ ls.length ≤ 100 ∧
      (¬ (keyOk to = true ∧ xs.length ≤ 4) → K (.tup [.int .u64 0, .int .i64 1]) hp) ∧
      ((keyOk to = true ∧ xs.length ≤ 4) → (32 ≤ L.length ∨ (thereL ls to = none ∧ 64 ≤ ls.length)) → K (.tup [.int .u64 0, .int .i64 6]) hp) ∧
      ((keyOk to = true ∧ xs.length ≤ 4) → ¬ (32 ≤ L.length ∨ (thereL ls to = none ∧ 64 ≤ ls.length)) → ∀ s : Int, s = IntKind.u64.wrap ((thereL ls to).getD (0 : Int) + 1) → 
        K (.tup [.int .u64 s, .int .i64 0]) (rfH true true o (L ++ [(to, o, s, kind, xs)]) (setF ls to s)))
  | _ => False
theorem s25 : Sound Tryz.prog 25 C25 := by
 refine sound_of_okF ok25 (.cons s82 (callable_of_okF ok82) (.cons s83 (callable_of_okF ok83) (.cons s50 (callable_of_okF ok50) (.cons s84 (callable_of_okF ok84) (.cons s78 (callable_of_okF ok78) .nil))))) ?_
 intro args hp K h
 unfold C25 at h
 split at h
 ·rename_i to kind x
  obtain ⟨o, L, ls, rfl, h⟩ := h
  refine ⟨by simp, [], ?_⟩
  rcases h with ⟨rfl, hL, hls, h1, h2, h3⟩ | ⟨p, xs, rfl, hL, hls, h1, h2, h3⟩
  ·unfold rfH at h1 h2 h3 ⊢
   simp (maxSteps:=9^9) only [a25, r25, C82, C83, C50, C84, C78, rfH, go_sem, Int.reduceLT, Nat.reduceLeDiff, Nat.reduceSub, Nat.reduceMul, Nat.reduceLT, Nat.reduceBEq, Nat.reduceAdd]
   refine sw_intro (fun hk => ?_) (fun hk => h1 (by simp [hk]))
   have h4 : ([] : List Int).length ≤ 4 := by simp
   rintro _ _ m rfl c rfl
   refine sw_intro (fun hc => h2 ⟨hk, h4⟩ (.inl (by simp at hc; omega))) (fun hc => ?_)
   refine sw_intro (fun hb1 => ?_) (fun hb1 => ?_)
   ·rintro _ _ s hs
    refine ⟨by omega, fun _ => by omega, fun _ => h3 ⟨hk, h4⟩ ?_ s hs⟩
    rintro (h | ⟨h, _⟩)
    ·simp at hc; omega
    ·rw [h] at hb1; cases hb1
   ·rintro _ _ m2 rfl c rfl
    refine sw_intro (fun hc2 => h2 ⟨hk, h4⟩ (.inr ⟨by simpa using hb1, by simp at hc2; omega⟩)) (fun hc2 => ?_)
    rintro _ _ s hs
    refine ⟨by omega, fun _ => by omega, fun _ => h3 ⟨hk, h4⟩ ?_ s hs⟩
    rintro (h | ⟨_, h⟩)
    ·simp at hc; omega
    ·simp at hc2; omega
  ·unfold rfH at h1 h2 h3 ⊢
   simp (maxSteps:=9^9) only [a25, r25, C82, C83, C50, C84, C78, rfH, go_sem, Nat.reduceLeDiff, Nat.reduceSub, Nat.reduceMul, Nat.reduceLT, Nat.reduceBEq, Nat.reduceAdd]
   refine sw_intro (fun hk => ?_) (fun hk => h1 (by simp [hk]))
   rintro _ _ n rfl c rfl
   refine sw_intro (fun h => h1 (fun h' => by simp at h; omega)) (fun h4 => ?_)
   have h4 : xs.length ≤ 4 := by simp at h4; omega
   rintro _ _ m rfl c rfl
   refine sw_intro (fun hc => h2 ⟨hk, h4⟩ (.inl (by simp at hc; omega))) (fun hc => ?_)
   refine sw_intro (fun hb1 => ?_) (fun hb1 => ?_)
   ·rintro _ _ s hs
    refine ⟨by omega, fun _ => by omega, fun _ => h3 ⟨hk, h4⟩ ?_ s hs⟩
    rintro (h | ⟨h, _⟩)
    ·simp at hc; omega
    ·rw [h] at hb1; cases hb1
   ·rintro _ _ m2 rfl c rfl
    refine sw_intro (fun hc2 => h2 ⟨hk, h4⟩ (.inr ⟨by simpa using hb1, by simp at hc2; omega⟩)) (fun hc2 => ?_)
    rintro _ _ s hs
    refine ⟨by omega, fun _ => by omega, fun _ => h3 ⟨hk, h4⟩ ?_ s hs⟩
    rintro (h | ⟨_, h⟩)
    ·simp at hc; omega
    ·simp at hc2; omega
 ·exact h.elim
end Go.V
namespace Go.V
open Go.Proofs
set_option maxRecDepth 100000
set_option linter.unusedSimpArgs false
set_option linter.unnecessarySimpa false
set_option linter.unusedVariables false
/-! ### the order of texts; the document's serials are a map -/
theorem bytesLess_eq' : ∀ (x y : List UInt8), Op.bytesLess x y = decide (x < y)
 | [], [] => by simp [Op.bytesLess]
 | _ :: _, [] => by simp [Op.bytesLess]
 | [], _ :: _ => by simp [Op.bytesLess]
 | a :: x, b :: y => by
  rw [Op.bytesLess, bytesLess_eq' x y]
  simp only [List.cons_lt_cons_iff]
  by_cases h1 : a < b <;> by_cases h2 : a = b <;> by_cases h3 : x < y <;> simp [h1, h2, h3]
theorem ltS_eq (a b : ByteArray) : ltS a b = decide (a.data.toList < b.data.toList) := bytesLess_eq' _ _
theorem ltS_irr (a : ByteArray) : ltS a a = false := by rw [ltS_eq]; simp [List.lt_irrefl]
theorem ltS_trans {a b c : ByteArray} (h1 : ltS a b = true) (h2 : ltS b c = true) : ltS a c = true := by
 rw [ltS_eq, decide_eq_true_eq] at *
 exact List.lt_trans h1 h2
theorem ba_ext {a b : ByteArray} (h : a.data.toList = b.data.toList) : a = b := by
 cases a; cases b
 congr 1
 exact Array.ext' h
theorem ltS_tot {a b : ByteArray} (h1 : ltS a b = false) (h2 : ltS b a = false) : a = b := by
 rw [ltS_eq, decide_eq_false_iff_not] at *
 exact ba_ext (List.le_antisymm (List.not_lt.1 h2) (List.not_lt.1 h1))
theorem ltS_asy {a b : ByteArray} (h : ltS a b = true) : ltS b a = false := by
 cases h2 : ltS b a with
 | false => rfl
 | true => have := ltS_trans h h2; rw [ltS_irr] at this; cases this
def lookR : List LastT.den → ByteArray → Option Int
 | [], _ => none
 | x :: r, to => if ltS x.1 to = true then lookR r to else if x.1 = to then some x.2 else none
def setR : List LastT.den → ByteArray → Int → List LastT.den
 | [], to, s => [(to, s)]
 | x :: r, to, s => if ltS x.1 to = true then x :: setR r to s else if x.1 = to then (to, s) :: r else (to, s) :: x :: r
theorem thereL_eq : ∀ (ls : List LastT.den) (to : ByteArray), thereL ls to = lookR ls to
 | [], to => rfl
 | x :: r, to => by
  have ih := thereL_eq r to
  unfold thereL placeF at ih ⊢
  rw [List.takeWhile_cons]
  by_cases h : ltS x.1 to = true
  ·rw [if_pos h, List.length_cons, List.getElem?_cons_succ, ih, lookR, if_pos h]
  ·rw [if_neg h, List.length_nil, List.getElem?_cons_zero, lookR, if_neg h]
theorem setF_eq : ∀ (ls : List LastT.den) (to : ByteArray) (s : Int), setF ls to s = setR ls to s
 | [], to, s => rfl
 | x :: r, to, s => by
  have ih := setF_eq r to s
  unfold setF at ih ⊢
  rw [thereL_eq] at ih ⊢
  unfold placeF at ih ⊢
  rw [List.takeWhile_cons, lookR, setR]
  by_cases h : ltS x.1 to = true
  ·simp only [if_pos h, List.length_cons, List.set_cons_succ, List.take_succ_cons, List.drop_succ_cons, List.cons_append]
   rw [← ih]
   split <;> rfl
  ·simp only [if_neg h, List.length_nil, List.set_cons_zero, List.take_zero, List.drop_zero, List.nil_append]
   by_cases h2 : x.1 = to
   ·simp [h2]
   ·simp [h2]
theorem lookR_set (to : ByteArray) (s : Int) (to' : ByteArray) : ∀ ls, lookR (setR ls to s) to' = if to' = to then some s else lookR ls to'
  | [] => by
    simp only [setR, lookR]
    by_cases h : to' = to
    · subst h; simp [ltS_irr]
    · by_cases h2 : ltS to to' = true <;> simp [h, h2, Ne.symm h]
  | x :: r => by
    have ih := lookR_set to s to' r
    simp only [setR]
    by_cases h : ltS x.1 to = true
    · rw [if_pos h]
      simp only [lookR]
      by_cases h2 : to' = to
      · subst h2
        rw [if_pos h, ih]
        simp
      · rw [if_neg h2] at ih ⊢
        rw [ih]
    · rw [if_neg h]
      by_cases h1 : x.1 = to
      · subst h1
        simp only [if_true, lookR]
        by_cases h2 : to' = x.1
        · subst h2; simp [ltS_irr]
        · by_cases h3 : ltS x.1 to' = true <;> simp [h2, h3, Ne.symm h2]
      · simp only [if_neg h1]
        by_cases h2 : to' = to
        · subst h2; simp [lookR, ltS_irr]
        · rw [if_neg h2]
          have h3 : ltS to x.1 = true := by
            cases h4 : ltS to x.1 with
            | true => rfl
            | false => exact absurd (ltS_tot (by simpa using h) h4) h1
          rw [lookR]
          by_cases h5 : ltS to to' = true
          · rw [if_pos h5]
          · rw [if_neg h5, if_neg (Ne.symm h2)]
            have h6 : ltS to' to = true := by
              cases h7 : ltS to' to with
              | true => rfl
              | false => exact absurd (ltS_tot h7 (by simpa using h5)) h2
            have h8 := ltS_trans h6 h3
            have h9 := ltS_asy h8
            have h10 : x.1 ≠ to' := fun e => by rw [e, ltS_irr] at h8; cases h8
            simp [lookR, h9, h10]
theorem setR_length (to : ByteArray) (s : Int) : ∀ ls, (setR ls to s).length = if lookR ls to = none then ls.length + 1 else ls.length
 | [] => rfl
 | x :: r => by
  have ih := setR_length to s r
  simp only [setR, lookR]
  by_cases h : ltS x.1 to = true
  ·simp only [if_pos h, List.length_cons, ih]; split <;> rfl
  ·by_cases h1 : x.1 = to
   ·subst h1; simp [ltS_irr]
   ·simp [h, h1]
def Rel (m : List (ByteArray × Int)) (ls : List LastT.den) : Prop := m.length = ls.length ∧ ∀ to, lookM .str (.int .u64) m to = thereL ls to
theorem Rel.nil : Rel [] [] := ⟨rfl, fun to => rfl⟩
theorem Rel.set {m : List (ByteArray × Int)} {ls : List LastT.den} (h : Rel m ls) (to : ByteArray) (s : Int) : Rel (updM .str (.int .u64) m to s) (setF ls to s) := by
 obtain ⟨h1, h2⟩ := h
 refine ⟨?_, fun to' => ?_⟩
 ·rw [setF_eq, setR_length]
  have := h2 to
  rw [thereL_eq] at this
  by_cases h : lookR ls to = none
  ·rw [h] at this
   rw [updM_length_new (vt := .int .u64) this, if_pos h, h1]
  ·rw [updM_length_old (vt := .int .u64) (by rw [this]; exact h), if_neg h, h1]
 ·rw [setF_eq, thereL_eq, lookR_set]
  by_cases h : to' = to
  ·subst h; rw [if_pos rfl]; exact lookM_upd_self (vt := .int .u64) _ _ _
  ·rw [if_neg h, lookM_upd_ne (vt := .int .u64) _ _ h, h2, thereL_eq]
theorem Rel.len {m : List (ByteArray × Int)} {ls : List LastT.den} (h : Rel m ls) (to : ByteArray) (s : Int) : (setF ls to s).length ≤ ls.length + 1 := by
 rw [setF_eq, setR_length]; split <;> omega
end Go.V
namespace Go.V
open Go.Proofs
set_option maxRecDepth 100000
set_option linter.unusedSimpArgs false
set_option linter.unnecessarySimpa false
set_option linter.unusedVariables false
/-! ### an outbox of bytes, plainly -/
def lastK (ls : List LastT.den) : ByteArray := match ls.getLast? with | some x => x.1 | none => ByteArray.empty
def keyStep (a : List LastT.den × Option (List UInt8)) : Option (List LastT.den × Option (List UInt8)) :=
 let x := rdText a.2
 let y := rdNum x.2
 if y.2.isNone = true ∨ keyOk x.1 = false ∨ y.1 = 0 ∨ ltS (lastK a.1) x.1 = false then none else some (a.1 ++ [(x.1, y.1)], y.2)
def keysN (st : Option (List UInt8)) : Nat → Option (List LastT.den × Option (List UInt8))
 | 0 => some ([], st)
 | n + 1 => (keysN st n).bind keyStep
def outStep (o : ByteArray) (ls : List LastT.den) (a : List OutT.den × Option (List UInt8)) : Option (List OutT.den × Option (List UInt8)) :=
 let x := rdText a.2
 let y := rdText x.2
 match decL y.1.data.toList with
 | none => none
 | some l => if y.2.isNone = true ∨ l.1 ≠ o ∨ (lookM .str (.int .u64) ls x.1).getD (0 : Int) = 0 then none else some (a.1 ++ [(x.1, l)], y.2)
def outsN (o : ByteArray) (ls : List LastT.den) (st : Option (List UInt8)) : Nat → Option (List OutT.den × Option (List UInt8))
 | 0 => some ([], st)
 | n + 1 => (outsN o ls st n).bind (outStep o ls)
def cntT (to : ByteArray) : List OutT.den → Nat
 | [] => 0
 | x :: r => if x.1 = to then cntT to r + 1 else cntT to r
def serOk (ls : List LastT.den) : List OutT.den → Bool
 | [] => true
 | x :: r => decide (((cntT x.1 (x :: r) : Nat) : Int) ≤ (lookM .str (.int .u64) ls x.1).getD (0 : Int)) && decide (x.2.2.1 = (lookM .str (.int .u64) ls x.1).getD (0 : Int) - (cntT x.1 (x :: r) : Nat) + 1) && serOk ls r
def decOut (bs : List UInt8) : Option (ByteArray × List OutT.den × List LastT.den) :=
 let a := rdText (some bs)
 let c := rdNum a.2
 if keyOk a.1 = false ∨ 64 < c.1 then none else
 match keysN c.2 c.1.toNat with
 | none => none
 | some p =>
  let d := rdNum p.2
  if 32 < d.1 then none else
  match outsN a.1 p.1 d.2 d.1.toNat with
  | none => none
  | some q => if serOk p.1 q.1 = true ∧ q.2 = some [] then some (a.1, q.1, p.1) else none
theorem keysN_none {st : Option (List UInt8)} {i : Nat} (h : keysN st i = none) : ∀ n, i ≤ n → keysN st n = none := by
 intro n hn
 induction n with
 | zero =>
  have : i = 0 := by omega
  rw [← this]; exact h
 | succ n ih =>
  rcases Nat.lt_or_ge n i with h1 | h1
  ·have : i = n + 1 := by omega
   rw [← this]; exact h
  ·rw [keysN, ih h1]; rfl
theorem outsN_none {o ls} {st : Option (List UInt8)} {i : Nat} (h : outsN o ls st i = none) : ∀ n, i ≤ n → outsN o ls st n = none := by
 intro n hn
 induction n with
 | zero =>
  have : i = 0 := by omega
  rw [← this]; exact h
 | succ n ih =>
  rcases Nat.lt_or_ge n i with h1 | h1
  ·have : i = n + 1 := by omega
   rw [← this]; exact h
  ·rw [outsN, ih h1]; rfl
structure KeysOk (ls : List LastT.den) (n : Nat) : Prop where
 len : ls.length = n
 srt : ls.Pairwise fun x y => ltS x.1 y.1 = true
 key : ∀ x ∈ ls, keyOk x.1 = true ∧ x.2 ≠ 0 ∧ 0 ≤ x.2 ∧ x.2 ≤ 18446744073709551615
theorem lastK_snoc (ls : List LastT.den) (x : LastT.den) : lastK (ls ++ [x]) = x.1 := by simp [lastK]
theorem ltS_last {ls : List LastT.den} {k : ByteArray} (h : ls.Pairwise fun x y => ltS x.1 y.1 = true) (hk : ltS (lastK ls) k = true) : ∀ x ∈ ls, ltS x.1 k = true := by
 intro x hx
 rcases List.eq_nil_or_concat ls with rfl | ⟨r, y, rfl⟩
 ·simp at hx
 ·rw [List.concat_eq_append] at *
  rw [lastK_snoc] at hk
  rw [List.pairwise_append] at h
  rcases List.mem_append.1 hx with hx | hx
  ·exact ltS_trans (h.2.2 x hx y (by simp)) hk
  ·simp at hx; subst hx; exact hk
theorem keysN_ok {st : Option (List UInt8)} : ∀ {n : Nat} {p : List LastT.den × Option (List UInt8)}, keysN st n = some p → KeysOk p.1 n
 | 0, p, h => by
  simp only [keysN, Option.some.injEq] at h
  subst h
  exact ⟨rfl, List.Pairwise.nil, fun x hx => by simp at hx⟩
 | n + 1, p, h => by
  rw [keysN] at h
  cases hq : keysN st n with
  | none => rw [hq] at h; cases h
  | some q =>
   rw [hq] at h
   have ih := keysN_ok hq
   simp only [Option.bind_some, keyStep] at h
   split at h
   ·cases h
   ·rename_i hc
    simp only [Option.some.injEq] at h
    subst h
    have hr := rdNum_in (rdText q.2).2
    refine ⟨by simp [ih.len], ?_, ?_⟩
    ·rw [List.pairwise_append]
     refine ⟨ih.srt, List.pairwise_singleton _ _, fun x hx y hy => ?_⟩
     simp at hy; subst hy
     refine ltS_last ih.srt ?_ x hx
     cases hb : ltS (lastK q.1) (rdText q.2).1 with
     | true => rfl
     | false => exact absurd (.inr (.inr (.inr hb))) hc
    ·intro x hx
     rcases List.mem_append.1 hx with hx | hx
     ·exact ih.key x hx
     ·simp at hx; subst hx
      refine ⟨?_, fun h0 => hc (.inr (.inr (.inl h0))), hr⟩
      cases hb : keyOk (rdText q.2).1 with
      | true => rfl
      | false => exact absurd (.inr (.inl hb)) hc
end Go.V
namespace Go.V
open Go.Proofs
set_option maxRecDepth 100000
set_option linter.unusedSimpArgs false
set_option linter.unnecessarySimpa false
set_option linter.unusedVariables false
def lastsE (ls : List LastT.den) : List UInt8 := ls.flatMap fun x => textB x.1 ++ numB x.2
def outR (o : ByteArray) (L : List OutT.den) (ls : List LastT.den) : List UInt8 := textB o ++ numB ls.length ++ lastsE ls ++ numB L.length ++ outsE L
end Go.V
