/- A part of the proof layer, or functions of the given program in it: contracts and their proofs. -/
import Derived.Test.YthfkoeoaehkoaaaGreatDoorMS12
import Derived.Shelf.Strings.OnBuilder
import Derived.Test.YthfkoeoaehkoaaaGreatDoorMN1
import Derived.Shelf.RegionOpenPlain
import Derived.WalkKit
import Derived.Laws.Externs
import Derived.Laws.LoneSync
namespace Go.V
open Go.Proofs Go.Shelf Go.RowKit
set_option maxRecDepth 100000
set_option maxHeartbeats 8000000
set_option linter.unusedSimpArgs false
set_option linter.unnecessarySimpa false
set_option linter.unusedVariables false
attribute [local irreducible] rc
/-! ### lists alike, in the package -/
def C42 : Contract := fun args hp K => match args, hp with
 | [.sl p 16 .str xs, .sl q 16 .str ys], [] => K (.bool (decide ((xs : List ByteArray) = ys))) []
 | _, _ => False
def Le42 (p q : Bool) (xs ys : List ByteArray) : LoopAnn := { G := Nat, I := fun i => ⟨[(0, .sl p 16 .str xs), (1, .sl q 16 .str ys), (12, .int .i64 xs.length), (13, .int .i64 i)], []⟩, R := fun _ i => i ≤ xs.length ∧ xs.take i = ys.take i, μ := fun i => xs.length - i }
theorem Le42_I {p q} {xs ys : List ByteArray} (i : Nat) : (Le42 p q xs ys).I i = ⟨[(0, .sl p 16 .str xs), (1, .sl q 16 .str ys), (12, .int .i64 xs.length), (13, .int .i64 i)], []⟩ := rfl
theorem s42 : Sound Tryz.prog 42 C42 := by
 refine sound_of_okF ok42 .nil ?_
 intro args hp K h
 unfold C42 at h
 split at h
 ·rename_i p xs q ys
  have hmx := maxLen_val
  refine ⟨by simp, [(1, Le42 p q xs ys)], ?_⟩
  simp (maxSteps:=9^9) only [a42, r42, go_sem, eq_self, and_self, Int.natCast_pos, Int.le_refl, Nat.le_refl, Int.natCast_nonneg, Int.ofNat_lt, Int.ofNat_le, Int.reduceLT, Int.reduceLE, Int.reduceEq, Int.reduceNe, Int.reduceAdd, Int.reduceSub, Int.reduceMul, Int.reduceToNat, Int.reduceNeg, Nat.reduceEqDiff, Nat.reduceLeDiff, Nat.reduceSub, Nat.reduceMul, Nat.reduceLT, Nat.reduceBEq, Nat.reduceAdd, Nat.reduceDiv, Nat.reduceMod]
  have hf : ¬ (xs : List ByteArray) = ys → K (.bool false) [] := fun hne => by rw [decide_eq_false hne] at h; exact h
  have ht : (xs : List ByteArray) = ys → K (.bool true) [] := fun e => by rw [decide_eq_true e] at h; exact h
  rintro _ _ m hm _ _ m2 hm2 c3 hc3
  refine swn hc3 (fun h0 => hf (fun e => h0 (by rw [hm, hm2, e]))) (fun h0 => ?_)
  have hl1 : xs.length = ys.length := by omega
  rintro _ _ _ rfl
  refine loop_intro (A := Le42 p q xs ys) (0 : Nat) ?_ ⟨by simp, by simp⟩ ?_
  ·simp (maxSteps:=9^9) only [Le42_I, go_sem, eq_self, and_self, Int.natCast_pos, Int.le_refl, Nat.le_refl, Int.natCast_nonneg, Int.ofNat_lt, Int.ofNat_le, Int.reduceLT, Int.reduceLE, Int.reduceEq, Int.reduceNe, Int.reduceAdd, Int.reduceSub, Int.reduceMul, Int.reduceToNat, Int.reduceNeg, Nat.reduceEqDiff, Nat.reduceLeDiff, Nat.reduceSub, Nat.reduceMul, Nat.reduceLT, Nat.reduceBEq, Nat.reduceAdd, Nat.reduceDiv, Nat.reduceMod]
   rfl
  ·rintro (i : Nat) (⟨g1, g2⟩ : i ≤ xs.length ∧ (xs : List ByteArray).take i = (ys : List ByteArray).take i)
   simp (maxSteps:=9^9) only [Le42_I, go_sem, eq_self, and_self, Int.natCast_pos, Int.le_refl, Nat.le_refl, Int.natCast_nonneg, Int.ofNat_lt, Int.ofNat_le, Int.reduceLT, Int.reduceLE, Int.reduceEq, Int.reduceNe, Int.reduceAdd, Int.reduceSub, Int.reduceMul, Int.reduceToNat, Int.reduceNeg, Nat.reduceEqDiff, Nat.reduceLeDiff, Nat.reduceSub, Nat.reduceMul, Nat.reduceLT, Nat.reduceBEq, Nat.reduceAdd, Nat.reduceDiv, Nat.reduceMod]
   intro c5 hc5
   refine swd hc5 (fun h2 => ?_) (fun h2 => ?_)
   ·refine nd_intro h2 (nd_intro (by omega) ?_)
    intro c6 hc6
    refine swn hc6 (fun h3 => hf (fun e => h3 (by rw [e]))) (fun h3 => ?_)
    rintro _ _ m5 hm5
    rw [w64 (by omega)] at hm5
    rw [hm5, show (i : Int) + 1 = ((i + 1 : Nat) : Int) by omega]
    exact lpE_intro (A := Le42 p q xs ys) (i + 1 : Nat) rfl ⟨h2, take_next (t := .str) h2 (by omega) g2 h3⟩ (by show xs.length - (i + 1) < xs.length - i; omega)
   ·refine ht ?_
    rw [List.take_of_length_le (by omega), List.take_of_length_le (by omega)] at g2
    exact g2
 ·exact h.elim
def C43 : Contract := fun args hp K => match args, hp with
 | [.sl p 8 (.int .i64) xs, .sl q 8 (.int .i64) ys], [] => K (.bool (decide ((xs : List Int) = ys))) []
 | _, _ => False
def Le43 (p q : Bool) (xs ys : List Int) : LoopAnn := { G := Nat, I := fun i => ⟨[(0, .sl p 8 (.int .i64) xs), (1, .sl q 8 (.int .i64) ys), (12, .int .i64 xs.length), (13, .int .i64 i)], []⟩, R := fun _ i => i ≤ xs.length ∧ xs.take i = ys.take i, μ := fun i => xs.length - i }
theorem Le43_I {p q} {xs ys : List Int} (i : Nat) : (Le43 p q xs ys).I i = ⟨[(0, .sl p 8 (.int .i64) xs), (1, .sl q 8 (.int .i64) ys), (12, .int .i64 xs.length), (13, .int .i64 i)], []⟩ := rfl
theorem s43 : Sound Tryz.prog 43 C43 := by
 refine sound_of_okF ok43 .nil ?_
 intro args hp K h
 unfold C43 at h
 split at h
 ·rename_i p xs q ys
  have hmx := maxLen_val
  refine ⟨by simp, [(1, Le43 p q xs ys)], ?_⟩
  simp (maxSteps:=9^9) only [a43, r43, go_sem, eq_self, and_self, Int.natCast_pos, Int.le_refl, Nat.le_refl, Int.natCast_nonneg, Int.ofNat_lt, Int.ofNat_le, Int.reduceLT, Int.reduceLE, Int.reduceEq, Int.reduceNe, Int.reduceAdd, Int.reduceSub, Int.reduceMul, Int.reduceToNat, Int.reduceNeg, Nat.reduceEqDiff, Nat.reduceLeDiff, Nat.reduceSub, Nat.reduceMul, Nat.reduceLT, Nat.reduceBEq, Nat.reduceAdd, Nat.reduceDiv, Nat.reduceMod]
  have hf : ¬ (xs : List Int) = ys → K (.bool false) [] := fun hne => by rw [decide_eq_false hne] at h; exact h
  have ht : (xs : List Int) = ys → K (.bool true) [] := fun e => by rw [decide_eq_true e] at h; exact h
  rintro _ _ m hm _ _ m2 hm2 c3 hc3
  refine swn hc3 (fun h0 => hf (fun e => h0 (by rw [hm, hm2, e]))) (fun h0 => ?_)
  have hl1 : xs.length = ys.length := by omega
  rintro _ _ _ rfl
  refine loop_intro (A := Le43 p q xs ys) (0 : Nat) ?_ ⟨by simp, by simp⟩ ?_
  ·simp (maxSteps:=9^9) only [Le43_I, go_sem, eq_self, and_self, Int.natCast_pos, Int.le_refl, Nat.le_refl, Int.natCast_nonneg, Int.ofNat_lt, Int.ofNat_le, Int.reduceLT, Int.reduceLE, Int.reduceEq, Int.reduceNe, Int.reduceAdd, Int.reduceSub, Int.reduceMul, Int.reduceToNat, Int.reduceNeg, Nat.reduceEqDiff, Nat.reduceLeDiff, Nat.reduceSub, Nat.reduceMul, Nat.reduceLT, Nat.reduceBEq, Nat.reduceAdd, Nat.reduceDiv, Nat.reduceMod]
   rfl
  ·rintro (i : Nat) (⟨g1, g2⟩ : i ≤ xs.length ∧ (xs : List Int).take i = (ys : List Int).take i)
   simp (maxSteps:=9^9) only [Le43_I, go_sem, eq_self, and_self, Int.natCast_pos, Int.le_refl, Nat.le_refl, Int.natCast_nonneg, Int.ofNat_lt, Int.ofNat_le, Int.reduceLT, Int.reduceLE, Int.reduceEq, Int.reduceNe, Int.reduceAdd, Int.reduceSub, Int.reduceMul, Int.reduceToNat, Int.reduceNeg, Nat.reduceEqDiff, Nat.reduceLeDiff, Nat.reduceSub, Nat.reduceMul, Nat.reduceLT, Nat.reduceBEq, Nat.reduceAdd, Nat.reduceDiv, Nat.reduceMod]
   intro c5 hc5
   refine swd hc5 (fun h2 => ?_) (fun h2 => ?_)
   ·refine nd_intro h2 (nd_intro (by omega) ?_)
    intro c6 hc6
    refine swn hc6 (fun h3 => hf (fun e => h3 (by rw [e]))) (fun h3 => ?_)
    rintro _ _ m5 hm5
    rw [w64 (by omega)] at hm5
    rw [hm5, show (i : Int) + 1 = ((i + 1 : Nat) : Int) by omega]
    exact lpE_intro (A := Le43 p q xs ys) (i + 1 : Nat) rfl ⟨h2, take_next (t := .int .i64) h2 (by omega) g2 h3⟩ (by show xs.length - (i + 1) < xs.length - i; omega)
   ·refine ht ?_
    rw [List.take_of_length_le (by omega), List.take_of_length_le (by omega)] at g2
    exact g2
 ·exact h.elim
/-! ### numbers and keys as words -/
def C40 : Contract := fun args hp K => match args, hp with
 | [.str s], [] => s.size ≤ 100000 ∧ K (.str (hexW s)) []
 | _, _ => False
theorem s40 : Sound Tryz.prog 40 C40 := by
 refine sound_of_okF ok40 (.cons s97 (callable_of_okF ok97) .nil) ?_
 intro args hp K h
 unfold C40 at h
 split at h
 ·rename_i s
  obtain ⟨hs, h⟩ := h
  refine ⟨by simp, [], ?_⟩
  unfold hexW at h
  simp (maxSteps:=9^9) only [a40, r40, C97, go_sem, eq_self, and_self, Int.natCast_pos, Int.le_refl, Nat.le_refl, Int.natCast_nonneg, Int.ofNat_lt, Int.ofNat_le, Int.reduceLT, Int.reduceLE, Int.reduceEq, Int.reduceNe, Int.reduceAdd, Int.reduceSub, Int.reduceMul, Int.reduceToNat, Int.reduceNeg, Nat.reduceEqDiff, Nat.reduceLeDiff, Nat.reduceSub, Nat.reduceMul, Nat.reduceLT, Nat.reduceBEq, Nat.reduceAdd, Nat.reduceDiv, Nat.reduceMod]
  intro c hc
  refine swd9 hc (fun e => ?_) (fun e => ?_)
  ·rw [if_pos e] at h
   exact h
  ·rw [if_neg e] at h
   exact ⟨hs, h⟩
 ·exact h.elim
def C101 : Contract := fun args hp K => match args, hp with
 | [.str s], [] => s.size ≤ 100000 ∧ K (.str (hexW s)) []
 | _, _ => False
def C100 : Contract := fun args hp K => match args, hp with
 | [.int .u64 n], [] => (utoaB n.toNat).size ≤ maxLen ∧ K (.str (utoaB n.toNat)) []
 | _, _ => False
def C102 : Contract := fun args hp K => match args, hp with
 | [.int .i64 n], [] => (itoaB n).size ≤ maxLen ∧ K (.str (itoaB n)) []
 | _, _ => False
theorem jn_extra : Builder.Extra Tryz.prog Tryz.jn_ren where
 sizeBuilder := by kernel_rfl
 liesBuilder := by kernel_rfl
 t5 := Tryz.underlying5
 a5 := Tryz.isAgg5
 z5 := Tryz.sizeOf5
 v5 := Tryz.zeroValue5
 infoByte := by kernel_rfl
 cellsByte := by kernel_rfl
 sizeByte := by kernel_rfl
 neB5 := by decide
theorem join_lib : ∀ ws : List ByteArray, bsOf (Lib.join (ws.map (·.data.toList)) [32]) = joinB ws
 | [] => rfl
 | w :: r => by
  rw [List.map_cons, Lib.join_cons]
  have key : ∀ (r : List ByteArray) (x : ByteArray), bsOf (x.data.toList ++ Lib.joinTail [32] (r.map (·.data.toList))) = r.foldl addW x := by
   intro r
   induction r with
   | nil => intro x; simp [Lib.joinTail, bs_back]
   | cons y r ih =>
    intro x
    have e : x.data.toList ++ Lib.joinTail [32] ((y :: r).map (·.data.toList)) = (addW x y).data.toList ++ Lib.joinTail [32] (r.map (·.data.toList)) := by
     simp [Lib.joinTail, addW, blankB, ByteArray.data_append]
    rw [e, ih]
    rfl
  exact key r w
theorem rdL_strs {w : World} {F : Nat → Prop} : ∀ (xs : List ByteArray) (cs : List Value), rdL (rd w F .str) xs cs → cs = xs.map Value.string
 | [], cs, h => by simpa [rdL] using h
 | x :: xs, cs, h => by
  obtain ⟨c1, c2, rfl, h1, h2⟩ := h
  simp only [rd] at h1
  rw [h1.1, rdL_strs xs c2 h2]
  rfl
def C41 : Contract := fun args hp K => match args, hp with
 | [.sl p 16 .str ws, .str sep], [] => sep = blankB ∧ ws ≠ [] ∧ (joinB ws).size ≤ 1000000 ∧ K (.str (joinB ws)) []
 | _, _ => False
theorem s41 : Sound Tryz.prog 41 C41 := by
 refine sound_plain ?_
 intro args hp K h E vs hg hd
 unfold C41 at h
 split at h
 ·rename_i p ws sep
  obtain ⟨rfl, hne, hsz, h⟩ := h
  simp only [denL] at hd
  obtain ⟨v, r, rfl, d1, v2, r2, rfl, d2, rfl⟩ := hd
  simp only [den] at d1 d2
  obtain ⟨rfl, _⟩ := d2
  rcases d1 with ⟨e, _⟩ | ⟨b, off, cap, cur, T, fr, cs, rfl, h2, h3, h4, h5, h6, h7, h8⟩
  ·exact absurd e hne
  ·have hm := maxLen_val
   have hlt : b < E.w.heap.size := (Array.getElem?_eq_some_iff.1 h3).1
   have hjl : (Lib.join (ws.map (·.data.toList)) blankB.data.toList).length ≤ 140737488355328 := by
    have := bsOf_size (Lib.join (ws.map (·.data.toList)) [32])
    rw [join_lib] at this
    have e : blankB.data.toList = [32] := rfl
    rw [e]
    omega
   refine (Any.strings_Join Tryz.jn jn_extra b off cap ws blankB E.w ?_ hlt (by omega) h4 hjl).mono ?_
   ·intro j x hj
    have hcs := rdL_strs ws cs h8
    have hlen : j < ws.length := (List.getElem?_eq_some_iff.1 hj).1
    have h9 : ((cur.toList.drop off).take (ws.length * 1))[j]? = some (Value.string x) := by
     have h7' : (cur.toList.drop off).take (ws.length * 1) = cs := h7
     rw [h7', hcs, List.getElem?_map, hj]
     rfl
    rw [Nat.mul_one, List.getElem?_take, if_pos hlen, List.getElem?_drop] at h9
    simp [World.cell?, h3, ← Array.getElem?_toList, h9]
   ·rintro e w' ⟨rfl, hb⟩
    refine ⟨_, _, rfl, Chg.below hb, h, fun E' => ?_⟩
    simp only [den]
    have e := join_lib ws
    have e1 : blankB.data.toList = [32] := rfl
    rw [e1]
    exact ⟨congrArg Value.string e, by omega⟩
 ·exact h.elim
theorem s41_c : Callable Tryz.prog 41 := ⟨_, Tryz.func41, rfl, by decide⟩
end Go.V
namespace Go.V
set_option linter.unusedSimpArgs false
set_option linter.unnecessarySimpa false
set_option linter.unusedVariables false
open Go.Lib (decDigits itoa)
structure cmdOk (c : Cmd) : Prop where
 w : c.word.size ≤ 1000
 k : ∀ k ∈ c.keys, k.size ≤ 1000
 kl : c.keys.length ≤ 101
 nl : c.ints.length ≤ 500
 cl : c.client ≤ 18446744073709551615
 se : c.serial ≤ 18446744073709551615
 n : ∀ x ∈ c.ints, inR .i64 x
/-! ### sizes -/
theorem hexW_size {x : ByteArray} (h : x.size ≤ 1000) : (hexW x).size ≤ 2000 := by
 unfold hexW
 split
 ·decide
 ·unfold hexB
  rw [bsOf_size, hexL_len, size_list]
  omega
theorem utoaB_size {n : Nat} (h : n ≤ 18446744073709551615) : (utoaB n).size ≤ 20 := by
 unfold utoaB
 rw [bsOf_size]
 exact dec_len 19 n (by omega)
theorem itoaB_size {n : Int} (h : inR .i64 n) : (itoaB n).size ≤ 20 := by
 have h1 : (-9223372036854775808 : Int) ≤ n ∧ n ≤ 9223372036854775807 := h
 unfold itoaB
 rw [bsOf_size]
 unfold itoa
 split
 ·have := dec_len 18 n.natAbs (by omega)
  simp only [List.length_cons]
  omega
 ·have := dec_len 18 n.toNat (by omega)
  omega
theorem addW_le {s w : ByteArray} {a : Nat} (h1 : s.size ≤ a) (h2 : w.size ≤ 2000) : (addW s w).size ≤ a + 2001 := by
 rw [addW_size]
 omega
end Go.V
namespace Go.V
open Go.Proofs
set_option maxRecDepth 100000
set_option maxHeartbeats 8000000
set_option linter.unusedSimpArgs false
set_option linter.unnecessarySimpa false
set_option linter.unusedVariables false
attribute [local irreducible] rc
/-! ### few, theirs -/
def C15 : Contract := fun args hp K => match args, hp with
 | [.agg [.str w, .sl p 16 .str ks, .int .u64 c, .int .u64 s, .sl q 8 (.int .i64) ns]], [] => ∀ b : Bool, (b = true → (∀ k ∈ (ks : List ByteArray), k.size ≤ 1000) ∧ ks.length ≤ 101 ∧ ns.length ≤ 500 ∧ w.size ≤ 1000) → K (.bool b) []
 | _, _ => False
def L15 (w : ByteArray) (p q : Bool) (ks : List ByteArray) (c s : Int) (ns : List Int) : LoopAnn := {
 G := Nat
 I := fun i => ⟨[(1, .ptr 0 0), (6, .int .i64 ks.length), (7, .int .i64 i)], [.struct [.str w, .sl p 16 .str ks, .int .u64 c, .int .u64 s, .sl q 8 (.int .i64) ns]]⟩
 R := fun _ i => i ≤ ks.length ∧ (∀ k ∈ ks.take i, k.size ≤ 1000) ∧ i ≤ 101
 μ := fun i => ks.length - i }
theorem L15_I {w p q ks c s ns} (i : Nat) : (L15 w p q ks c s ns).I i = ⟨[(1, .ptr 0 0), (6, .int .i64 ks.length), (7, .int .i64 i)], [.struct [.str w, .sl p 16 .str ks, .int .u64 c, .int .u64 s, .sl q 8 (.int .i64) ns]]⟩ := rfl
theorem s15 : Sound Tryz.prog 15 C15 := by
 refine sound_of_okF ok15 .nil ?_
 intro args hp K h
 unfold C15 at h
 split at h
 ·rename_i w p ks c s q ns
  refine ⟨by simp, [(1, L15 w p q ks c s ns)], ?_⟩
  have hmx := maxLen_val
  simp (maxSteps:=9^9) only [a15, r15, go_sem, eq_self, and_self, Int.natCast_pos, Int.le_refl, Nat.le_refl, Int.natCast_nonneg, Int.ofNat_lt, Int.ofNat_le, Int.reduceLT, Int.reduceLE, Int.reduceEq, Int.reduceNe, Int.reduceAdd, Int.reduceSub, Int.reduceMul, Int.reduceToNat, Int.reduceNeg, Nat.reduceEqDiff, Nat.reduceLeDiff, Nat.reduceSub, Nat.reduceMul, Nat.reduceLT, Nat.reduceBEq, Nat.reduceAdd, Nat.reduceDiv, Nat.reduceMod]
  rintro _ _ m rfl
  refine loop_intro (A := L15 w p q ks c s ns) (0 : Nat) ?_ ⟨Nat.zero_le _, by simp, Nat.zero_le _⟩ ?_
  ·simp (maxSteps:=9^9) only [L15_I, go_sem, eq_self, and_self, Int.natCast_pos, Int.le_refl, Nat.le_refl, Int.natCast_nonneg, Int.ofNat_lt, Int.ofNat_le, Int.reduceLT, Int.reduceLE, Int.reduceEq, Int.reduceNe, Int.reduceAdd, Int.reduceSub, Int.reduceMul, Int.reduceToNat, Int.reduceNeg, Nat.reduceEqDiff, Nat.reduceLeDiff, Nat.reduceSub, Nat.reduceMul, Nat.reduceLT, Nat.reduceBEq, Nat.reduceAdd, Nat.reduceDiv, Nat.reduceMod]
   rfl
  rintro (i : Nat) (⟨g1, g2, g3⟩ : i ≤ ks.length ∧ (∀ k ∈ (ks : List ByteArray).take i, ByteArray.size k ≤ 1000) ∧ i ≤ 101)
  simp (maxSteps:=9^9) only [L15_I, go_sem, eq_self, and_self, Int.natCast_pos, Int.le_refl, Nat.le_refl, Int.natCast_nonneg, Int.ofNat_lt, Int.ofNat_le, Int.reduceLT, Int.reduceLE, Int.reduceEq, Int.reduceNe, Int.reduceAdd, Int.reduceSub, Int.reduceMul, Int.reduceToNat, Int.reduceNeg, Nat.reduceEqDiff, Nat.reduceLeDiff, Nat.reduceSub, Nat.reduceMul, Nat.reduceLT, Nat.reduceBEq, Nat.reduceAdd, Nat.reduceDiv, Nat.reduceMod]
  intro c5 hc5
  refine swd9 hc5 (fun h2 => ?_) (fun h2 => ?_)
  ·refine nd_intro h2 ?_
   rintro _ _ rfl c6 hc6
   refine swd9 hc6 (fun h3 => h false (by simp)) (fun h3 => ?_)
   intro c7 hc7
   refine swd9 hc7 (fun h4 => h false (by simp)) (fun h4 => ?_)
   intro _ _ m5 hm5
   rw [w64 (by omega)] at hm5
   rw [hm5, show (i : Int) + 1 = ((i + 1 : Nat) : Int) by omega]
   refine lpE_intro (A := L15 w p q ks c s ns) (i + 1 : Nat) rfl ⟨h2, fun k hk => ?_, by omega⟩ (by show ks.length - (i + 1) < ks.length - i; omega)
   rw [← take_elt (t := .str) h2] at hk
   rcases List.mem_append.1 hk with hk | hk
   ·exact g2 k hk
   ·rw [List.mem_singleton.1 hk]
    omega
  ·have g4 : ∀ k ∈ (ks : List ByteArray), ByteArray.size k ≤ 1000 := by
    rw [List.take_of_length_le (by omega)] at g2
    exact g2
   rintro _ _ _ rfl c6 hc6
   refine swd9 hc6 (fun h3 => ?_) (fun h3 => h false (by simp))
   rintro _ _ rfl c7 hc7
   refine h c7 (fun e => ?_)
   rw [hc7] at e
   have := of_decide_eq_true e
   exact ⟨g4, by omega, by omega, by omega⟩
 ·exact h.elim
def C17 : Contract := fun args hp K => match args, hp with
 | [.agg [.str w, .sl p 16 .str ks, .int .u64 c, .int .u64 s, .sl q 8 (.int .i64) ns]], [] => ks.length ≤ 100000 ∧ ns.length ≤ 100000 ∧ K (.agg [.str w, .sl true 16 .str ks, .int .u64 c, .int .u64 s, .sl true 8 (.int .i64) ns]) []
 | _, _ => False
theorem s17 : Sound Tryz.prog 17 C17 := by
 refine sound_of_okF ok17 .nil ?_
 intro args hp K h
 unfold C17 at h
 split at h
 ·rename_i w p ks c s q ns
  refine ⟨by simp, [], ?_⟩
  have hmx := maxLen_val
  simp (maxSteps:=9^9) only [a17, r17, go_sem, eq_self, and_self, Int.natCast_pos, Int.le_refl, Nat.le_refl, Int.natCast_nonneg, Int.ofNat_lt, Int.ofNat_le, Int.reduceLT, Int.reduceLE, Int.reduceEq, Int.reduceNe, Int.reduceAdd, Int.reduceSub, Int.reduceMul, Int.reduceToNat, Int.reduceNeg, Nat.reduceEqDiff, Nat.reduceLeDiff, Nat.reduceSub, Nat.reduceMul, Nat.reduceLT, Nat.reduceBEq, Nat.reduceAdd, Nat.reduceDiv, Nat.reduceMod]
  exact ⟨id, fun _ => ⟨id, fun _ => h.2.2⟩⟩
 ·exact h.elim
end Go.V
namespace Go.V
open Go.Proofs
set_option maxRecDepth 100000
set_option maxHeartbeats 8000000
set_option linter.unusedSimpArgs false
set_option linter.unnecessarySimpa false
set_option linter.unusedVariables false
attribute [local irreducible] rc
/-! ### Raw: the document's text of a command -/
theorem drop_elt {t : Ty} {xs : List t.den} {i : Nat} (h : i < xs.length) : xs.drop i = elt t xs i :: xs.drop (i + 1) := by
 rw [List.drop_eq_getElem_cons h]
 congr 1
 unfold elt
 simp [List.getD_eq_getElem?_getD, h]
def C44 : Contract := fun args hp K => match args, hp with
 | [.agg [.str w, .sl p 16 .str ks, .int .u64 cl, .int .u64 se, .sl q 8 (.int .i64) ns]], [] => ∃ c : Cmd, w = c.word ∧ ks = c.keys ∧ cl = c.client ∧ se = c.serial ∧ ns = c.ints ∧ cmdOk c ∧ ((rawText c).size ≤ 100000 → K (.str (rawText c)) [])
 | _, _ => False
section use
variable {K : SV → List SB → Prop}
end use
attribute [local irreducible] C32 C100 C101 C102
end Go.V
namespace Go.V
open Go.Proofs
set_option maxRecDepth 100000
set_option maxHeartbeats 8000000
set_option linter.unusedSimpArgs false
set_option linter.unnecessarySimpa false
set_option linter.unusedVariables false
attribute [local irreducible] rc
/-! ### both Prints -/
theorem print_iff (c : Cmd) (t : ByteArray) : printC c = some t ↔ t = prText c ∧ parseC (prText c) = .ok c := by
 constructor
 ·intro h
  have h1 := printC_some h
  have h2 : t = rawText c := by
   unfold printC at h
   split at h
   ·split at h
    ·exact (Option.some.inj h).symm
    ·cases h
   ·cases h
  subst h2
  have h3 := (print_same c).2.1 h1
  rw [h3]
  exact ⟨rfl, h1⟩
 ·rintro ⟨rfl, h⟩
  have h1 := (print_same c).1 h
  unfold printC
  rw [h1, h]
  simp
theorem print_none {c : Cmd} (h : ¬ parseC (prText c) = .ok c) : printC c = none := by
 cases e : printC c with
 | none => rfl
 | some t => exact absurd ((print_iff c t).1 e).2 h
theorem kinds_all {w : ByteArray} {m : Nat} (h : kindsF w m ≠ none) (n : Nat) : (kindsF w n).isSome = true := by
 rcases shape_cases w with rfl | ⟨_, h2⟩ | ⟨l, _, h2, _, _, _⟩
 ·rw [kinds_offer]; rfl
 ·exact absurd (h2 m) h
 ·rw [h2]; rfl
theorem cmd_eq (d c : Cmd) : decide (d.word = c.word ∧ (d.client : Int) = c.client ∧ (d.serial : Int) = c.serial ∧ (d.keys : List ByteArray) = c.keys ∧ (d.ints : List Int) = c.ints) = decide (d = c) := by
 rw [decide_eq_decide]
 constructor
 ·rintro ⟨h1, h2, h3, h4, h5⟩
  cases d
  cases c
  simp only at h1 h2 h3 h4 h5
  subst h1 h4 h5
  have h2' := Int.ofNat.inj h2
  have h3' := Int.ofNat.inj h3
  subst h2' h3'
  rfl
 ·rintro rfl
  exact ⟨rfl, rfl, rfl, rfl, rfl⟩
def CPrint : Contract := fun args hp K => match args, hp with
 | [.agg [.str w, .sl p 16 .str ks, .int .u64 cl, .int .u64 se, .sl q 8 (.int .i64) ns]], [] => ∃ c : Cmd, w = c.word ∧ ks = c.keys ∧ cl = c.client ∧ se = c.serial ∧ ns = c.ints ∧ cmdOk c ∧ (printC c = none → K (.tup [.str ByteArray.empty, .int .i64 1]) []) ∧ (∀ t, printC c = some t → K (.tup [.str t, .int .i64 0]) [])
 | _, _ => False
section use
variable {K : SV → List SB → Prop}
theorem usePp {s : ByteArray} (hs : s.size ≤ 1000000) (h1 : ∀ e, parseC s = .error e → K (.tup [zeroC, .int .i64 e]) []) (h2 : ∀ c, parseC s = .ok c → K (.tup [cmdV c, .int .i64 0]) []) : CParse [.str s] [] K := ⟨hs, h1, h2⟩
end use
theorem errPp {s : ByteArray} {e : Int} (h : parseC s = .error e) : e = 4 ∨ e = 2 := by
 unfold parseC at h
 split at h
 ·cases h; exact .inl rfl
 ·split at h
  ·cases h; exact .inr rfl
  ·split at h
   ·split at h
    ·cases h
    ·cases h; exact .inr rfl
   ·cases h; exact .inr rfl
attribute [local irreducible] C44 CParse C12
end Go.V
namespace Go.V
open Go.Proofs
set_option maxRecDepth 100000
set_option maxHeartbeats 8000000
set_option linter.unusedSimpArgs false
set_option linter.unnecessarySimpa false
set_option linter.unusedVariables false
attribute [local irreducible] rc
/-! ### shell.Print -/
structure G16 where
 j : Nat
 g : PS
def A16 (p q okb : Bool) (c : Cmd) : LoopAnn := {
 G := G16
 I := fun x => ⟨[(1, .ptr 0 0), (5, .bool okb), (6, .own 1), (7, .sl p 16 .str x.g.ks), (8, .sl q 8 (.int .i64) x.g.ns), (42, .own 2), (43, .int .i64 (prKinds c).length), (44, .int .i64 x.j)],
  [.struct [.str c.word, .sl p 16 .str c.keys, .int .u64 c.client, .int .u64 c.serial, .sl q 8 (.int .i64) c.ints], .row true 16 .str x.g.ws, .row true 1 .byte (prKinds c)]⟩
 R := fun _ x => x.j ≤ (prKinds c).length ∧ ((prKinds c).drop x.j).foldl (prStep c) x.g = (prKinds c).foldl (prStep c) ⟨[c.word], c.keys, c.ints⟩ ∧ x.g.ws ≠ [] ∧ x.g.ws.length ≤ 1 + x.j ∧ (joinB x.g.ws).size ≤ 1000 + 2001 * x.j ∧
  ((∀ k ∈ x.g.ks, k.size ≤ 1000) ∧ (∀ n ∈ x.g.ns, inR .i64 n) ∧ x.g.ks.length ≤ 101 ∧ x.g.ns.length ≤ 500)
 μ := fun x => (prKinds c).length - x.j }
theorem I16 (p q okb c) (x : G16) : (A16 p q okb c).I x = ⟨[(1, .ptr 0 0), (5, .bool okb), (6, .own 1), (7, .sl p 16 .str x.g.ks), (8, .sl q 8 (.int .i64) x.g.ns), (42, .own 2), (43, .int .i64 (prKinds c).length), (44, .int .i64 x.j)],
  [.struct [.str c.word, .sl p 16 .str c.keys, .int .u64 c.client, .int .u64 c.serial, .sl q 8 (.int .i64) c.ints], .row true 16 .str x.g.ws, .row true 1 .byte (prKinds c)]⟩ := rfl
section use
variable {K : SV → List SB → Prop}
theorem use27p {w : ByteArray} {n : Int} (hn : 0 ≤ n ∧ n ≤ 100000) (k : K (.tup [.str (bsOf ((kindsF w n.toNat).getD [])), .bool (kindsF w n.toNat).isSome]) []) : C27 [.str w, .int .i64 n] [] K := ⟨hn, k⟩
theorem use38 {n : Nat} (hs : (utoaB n).size ≤ maxLen) (k : K (.str (utoaB n)) []) : C38 [.int .u64 n, .int .i64 10] [] K := ⟨hs, k⟩
theorem use39 {n : Int} (hs : (itoaB n).size ≤ maxLen) (k : K (.str (itoaB n)) []) : C39 [.int .i64 n, .int .i64 10] [] K := ⟨hs, k⟩
theorem use40 {s : ByteArray} (hs : s.size ≤ 100000) (k : K (.str (hexW s)) []) : C40 [.str s] [] K := ⟨hs, k⟩
theorem use41 {ws : List ByteArray} {p : Bool} (h1 : ws ≠ []) (h2 : (joinB ws).size ≤ 1000000) (k : K (.str (joinB ws)) []) : C41 [.sl p 16 .str ws, .str ⟨#[32]⟩] [] K := ⟨rfl, h1, h2, k⟩
theorem use42 {p q : Bool} {xs ys : List ByteArray} (h : K (.bool (decide (xs = ys))) []) : C42 [.sl p 16 .str xs, .sl q 16 .str ys] [] K := h
theorem use43 {p q : Bool} {xs ys : List Int} (h : K (.bool (decide (xs = ys))) []) : C43 [.sl p 8 (.int .i64) xs, .sl q 8 (.int .i64) ys] [] K := h
end use
theorem prKinds_len (c : Cmd) : (prKinds c).length ≤ 8 := by
 unfold prKinds
 cases h : kindsF c.word (3 + c.ints.length) with
 | none => simp
 | some l => exact (shape_len _ _ _ h).1
attribute [local irreducible] C27 C38 C39 C40 C41 C42 C43 CParse
theorem s16 : Sound Tryz.prog 16 CPrint := by
 refine sound_of_okF ok16 (.cons s27 (callable_of_okF ok27) (.cons s38 ⟨_, Tryz.func38, rfl, by decide⟩ (.cons s39 ⟨_, Tryz.func39, rfl, by decide⟩ (.cons s40 (callable_of_okF ok40) (.cons s41 s41_c (.cons s42 (callable_of_okF ok42) (.cons s43 (callable_of_okF ok43) (.cons s10 (callable_of_okF ok10) .nil)))))))) ?_
 intro args hp K h
 unfold CPrint at h
 split at h
 ·rename_i w p ks cl se q ns
  obtain ⟨c, rfl, rfl, rfl, rfl, rfl, hc, h1, h2⟩ := h
  refine ⟨by simp, [(1, A16 p q (kindsF c.word (3 + c.ints.length)).isSome c)], ?_⟩
  have hmx := maxLen_val
  have hkl := hc.kl
  have hnl := hc.nl
  have hpl := prKinds_len c
  simp (maxSteps:=9^9) only [a16, r16, go_sem, eq_self, and_self, Int.natCast_pos, Int.le_refl, Nat.le_refl, Int.natCast_nonneg, Int.ofNat_lt, Int.ofNat_le, Int.reduceLT, Int.reduceLE, Int.reduceEq, Int.reduceNe, Int.reduceAdd, Int.reduceSub, Int.reduceMul, Int.reduceToNat, Int.reduceNeg, Nat.reduceEqDiff, Nat.reduceLeDiff, Nat.reduceSub, Nat.reduceMul, Nat.reduceLT, Nat.reduceBEq, Nat.reduceAdd, Nat.reduceDiv, Nat.reduceMod]
  rintro _ _ m rfl c1 hc1
  refine swd9 hc1 (fun e => absurd e (by omega)) (fun _ => ?_)
  rintro _ _ m rfl c2 hc2
  refine swd9 hc2 (fun e => absurd e (by omega)) (fun _ => ?_)
  rintro _ _ m rfl _ _ m1 hm1
  rw [w64 (by omega)] at hm1
  refine use27p (by omega) ?_
  have e1 : m1.toNat = 3 + c.ints.length := by omega
  rw [e1]
  have e2 : (kindsF c.word (3 + c.ints.length)).getD [] = prKinds c := rfl
  rw [e2]
  generalize hok : (kindsF c.word (3 + c.ints.length)).isSome = okb
  simp (maxSteps:=9^9) only [go_sem, eq_self, and_self, Int.natCast_pos, Int.le_refl, Nat.le_refl, Int.natCast_nonneg, Int.ofNat_lt, Int.ofNat_le, Int.reduceLT, Int.reduceLE, Int.reduceEq, Int.reduceNe, Int.reduceAdd, Int.reduceSub, Int.reduceMul, Int.reduceToNat, Int.reduceNeg, Nat.reduceEqDiff, Nat.reduceLeDiff, Nat.reduceSub, Nat.reduceMul, Nat.reduceLT, Nat.reduceBEq, Nat.reduceAdd, Nat.reduceDiv, Nat.reduceMod]
  rw [bs_list]
  refine ⟨by rw [bsOf_size]; omega, ?_⟩
  rintro _ _ m rfl
  refine loop_intro (A := A16 p q okb c) (⟨0, ⟨[c.word], c.keys, c.ints⟩⟩ : G16) ?_ ⟨Nat.zero_le _, rfl, by simp, by simp, by have := hc.w; show c.word.size ≤ 1000 + 2001 * 0; omega, hc.k, hc.n, hkl, hnl⟩ ?_
  ·simp (maxSteps:=9^9) only [I16, go_sem, eq_self, and_self, Int.natCast_pos, Int.le_refl, Nat.le_refl, Int.natCast_nonneg, Int.ofNat_lt, Int.ofNat_le, Int.reduceLT, Int.reduceLE, Int.reduceEq, Int.reduceNe, Int.reduceAdd, Int.reduceSub, Int.reduceMul, Int.reduceToNat, Int.reduceNeg, Nat.reduceEqDiff, Nat.reduceLeDiff, Nat.reduceSub, Nat.reduceMul, Nat.reduceLT, Nat.reduceBEq, Nat.reduceAdd, Nat.reduceDiv, Nat.reduceMod]
   rfl
  rintro ⟨j, ws, ks, ns⟩ hR
  obtain ⟨g1, g2, g3, g4, g5, g6, g7, g8, g9⟩ : j ≤ (prKinds c).length ∧ ((prKinds c).drop j).foldl (prStep c) ⟨ws, ks, ns⟩ = (prKinds c).foldl (prStep c) ⟨[c.word], c.keys, c.ints⟩ ∧ ws ≠ [] ∧ ws.length ≤ 1 + j ∧ (joinB ws).size ≤ 1000 + 2001 * j ∧
   ((∀ k ∈ ks, k.size ≤ 1000) ∧ (∀ n ∈ ns, inR .i64 n) ∧ ks.length ≤ 101 ∧ ns.length ≤ 500) := hR
  simp (maxSteps:=9^9) only [I16, go_sem, eq_self, and_self, Int.natCast_pos, Int.le_refl, Nat.le_refl, Int.natCast_nonneg, Int.ofNat_lt, Int.ofNat_le, Int.reduceLT, Int.reduceLE, Int.reduceEq, Int.reduceNe, Int.reduceAdd, Int.reduceSub, Int.reduceMul, Int.reduceToNat, Int.reduceNeg, Nat.reduceEqDiff, Nat.reduceLeDiff, Nat.reduceSub, Nat.reduceMul, Nat.reduceLT, Nat.reduceBEq, Nat.reduceAdd, Nat.reduceDiv, Nat.reduceMod]
  intro c45 hc45
  refine swd9 hc45 (fun hj => ?_) (fun hj => ?_)
  ·have hj' : j < (prKinds c).length := by omega
   refine nd_intro hj' ?_
   rw [show (prKinds c).drop j = elt .byte (prKinds c) j :: (prKinds c).drop (j + 1) from drop_elt (t := .byte) hj', List.foldl_cons] at g2
   generalize (elt .byte (prKinds c) j : UInt8) = k at g2
   have keq : ∀ n : UInt8, (k.toNat : Int) = n.toNat → k = n := fun n e => UInt8.toNat_inj.1 (by omega)
   have hmu : ∀ x : PS, (A16 p q okb c).μ (⟨j + 1, x⟩ : G16) < (A16 p q okb c).μ (⟨j, ⟨ws, ks, ns⟩⟩ : G16) := fun x => by
    show (prKinds c).length - (j + 1) < (prKinds c).length - j
    omega
   have back : ∀ x : PS, prStep c ⟨ws, ks, ns⟩ k = x → x.ws ≠ [] → x.ws.length ≤ 1 + (j + 1) → (joinB x.ws).size ≤ 1000 + 2001 * (j + 1) → ((∀ k ∈ x.ks, k.size ≤ 1000) ∧ (∀ n ∈ x.ns, inR .i64 n) ∧ x.ks.length ≤ 101 ∧ x.ns.length ≤ 500) →
     (A16 p q okb c).R (⟨0, ⟨[c.word], c.keys, c.ints⟩⟩ : G16) (⟨j + 1, x⟩ : G16) := fun x e a b d f => ⟨hj', by rw [← e]; exact g2, a, b, d, f⟩
   have one : ∀ (x : ByteArray) (ks' : List ByteArray) (ns' : List Int), x.size ≤ 2000 → prStep c ⟨ws, ks, ns⟩ k = ⟨ws ++ [x], ks', ns'⟩ → ((∀ k ∈ ks', k.size ≤ 1000) ∧ (∀ n ∈ ns', inR .i64 n) ∧ ks'.length ≤ 101 ∧ ns'.length ≤ 500) →
     (A16 p q okb c).R (⟨0, ⟨[c.word], c.keys, c.ints⟩⟩ : G16) (⟨j + 1, ⟨ws ++ [x], ks', ns'⟩⟩ : G16) := fun x ks' ns' hx e f =>
    back _ e (by simp) (by rw [List.length_append]; show ws.length + 1 ≤ _; omega) (by show (joinB (ws ++ [x])).size ≤ _; rw [joinB_snoc g3]; have := addW_le g5 hx; omega) f
   intro c99 hc99
   refine swd9 hc99 (fun e => ?_) (fun n99 => ?_)
   ·have k9 := keq 99 e
    subst k9
    have hz := utoaB_size hc.cl
    refine use38 (by omega) ?_
    simp (maxSteps:=9^9) only [go_sem, eq_self, and_self, Int.natCast_pos, Int.le_refl, Nat.le_refl, Int.natCast_nonneg, Int.ofNat_lt, Int.ofNat_le, Int.reduceLT, Int.reduceLE, Int.reduceEq, Int.reduceNe, Int.reduceAdd, Int.reduceSub, Int.reduceMul, Int.reduceToNat, Int.reduceNeg, Nat.reduceEqDiff, Nat.reduceLeDiff, Nat.reduceSub, Nat.reduceMul, Nat.reduceLT, Nat.reduceBEq, Nat.reduceAdd, Nat.reduceDiv, Nat.reduceMod]
    refine ⟨fun _ => by omega, fun _ _ _ m5 hm5 => ?_⟩
    rw [w64 (by omega)] at hm5
    rw [hm5, show (j : Int) + 1 = ((j + 1 : Nat) : Int) by omega]
    exact lpE_intro (A := A16 p q okb c) (⟨j + 1, ⟨ws ++ [utoaB c.client], ks, ns⟩⟩ : G16) rfl (one _ _ _ (by omega) (by simp [prStep]) ⟨g6, g7, g8, g9⟩) (hmu _)
   intro c115 hc115
   refine swd9 hc115 (fun e => ?_) (fun n115 => ?_)
   ·have k9 := keq 115 e
    subst k9
    have hz := utoaB_size hc.se
    refine use38 (by omega) ?_
    simp (maxSteps:=9^9) only [go_sem, eq_self, and_self, Int.natCast_pos, Int.le_refl, Nat.le_refl, Int.natCast_nonneg, Int.ofNat_lt, Int.ofNat_le, Int.reduceLT, Int.reduceLE, Int.reduceEq, Int.reduceNe, Int.reduceAdd, Int.reduceSub, Int.reduceMul, Int.reduceToNat, Int.reduceNeg, Nat.reduceEqDiff, Nat.reduceLeDiff, Nat.reduceSub, Nat.reduceMul, Nat.reduceLT, Nat.reduceBEq, Nat.reduceAdd, Nat.reduceDiv, Nat.reduceMod]
    refine ⟨fun _ => by omega, fun _ _ _ m5 hm5 => ?_⟩
    rw [w64 (by omega)] at hm5
    rw [hm5, show (j : Int) + 1 = ((j + 1 : Nat) : Int) by omega]
    exact lpE_intro (A := A16 p q okb c) (⟨j + 1, ⟨ws ++ [utoaB c.serial], ks, ns⟩⟩ : G16) rfl (one _ _ _ (by omega) (by simp [prStep]) ⟨g6, g7, g8, g9⟩) (hmu _)
   intro c105 hc105
   refine swd9 hc105 (fun e => ?_) (fun n105 => ?_)
   ·have k9 := keq 105 e
    subst k9
    rintro _ _ m rfl c6 hc6
    refine swd9 hc6 (fun h6 => ?_) (fun h6 => ?_)
    ·obtain ⟨n0, nr, rfl⟩ : ∃ n0 nr, ns = n0 :: nr := by
      cases ns with
      | nil => simp at h6
      | cons a b => exact ⟨a, b, rfl⟩
     have hz := itoaB_size (g7 n0 (List.mem_cons_self ..))
     refine nd_intro (by simp) (nd_intro (by simp; omega) ?_)
     intro ys hys
     have hys' : ys = nr := by rw [hys]; simp
     subst hys'
     refine use39 (by have : (itoaB n0).size ≤ 20 := hz; show (itoaB n0).size ≤ maxLen; omega) ?_
     simp (maxSteps:=9^9) only [go_sem, eq_self, and_self, Int.natCast_pos, Int.le_refl, Nat.le_refl, Int.natCast_nonneg, Int.ofNat_lt, Int.ofNat_le, Int.reduceLT, Int.reduceLE, Int.reduceEq, Int.reduceNe, Int.reduceAdd, Int.reduceSub, Int.reduceMul, Int.reduceToNat, Int.reduceNeg, Nat.reduceEqDiff, Nat.reduceLeDiff, Nat.reduceSub, Nat.reduceMul, Nat.reduceLT, Nat.reduceBEq, Nat.reduceAdd, Nat.reduceDiv, Nat.reduceMod]
     have pend : nd ((1 : Int) ≤ ((ys.length + 1 : Nat) : Int)) (∀ y : List Int, y = List.take (ys.length + 1 - 1) ys → SV.sl q 8 (.int .i64) ys = SV.sl q 8 (.int .i64) y) := nd_intro (by omega) (fun y hy => by rw [hy]; simp)
     refine ⟨pend, pend, fun _ => by omega, fun _ => ⟨pend, pend, fun _ _ m5 hm5 => ?_⟩⟩
     rw [w64 (by omega)] at hm5
     rw [hm5, show (j : Int) + 1 = ((j + 1 : Nat) : Int) by omega]
     exact lpE_intro (A := A16 p q okb c) (⟨j + 1, ⟨ws ++ [itoaB n0], ks, ys⟩⟩ : G16) rfl (one _ _ _ (by have : (itoaB n0).size ≤ 20 := hz; omega) (by simp [prStep]) ⟨g6, fun n hn => g7 n (List.mem_cons_of_mem _ hn), g8, by simp only [List.length_cons] at g9; omega⟩) (hmu _)
    ·have hn : ns = [] := by
      cases ns with
      | nil => rfl
      | cons a b => simp at h6
     subst hn
     intro c7 hc7
     refine swn hc7 (fun e => absurd rfl e) (fun _ => ?_)
     intro _ _ m5 hm5
     rw [w64 (by omega)] at hm5
     rw [hm5, show (j : Int) + 1 = ((j + 1 : Nat) : Int) by omega]
     exact lpE_intro (A := A16 p q okb c) (⟨j + 1, ⟨ws, ks, []⟩⟩ : G16) rfl (back _ (by simp [prStep]) g3 (by show ws.length ≤ _; omega) (by show (joinB ws).size ≤ _; omega) ⟨g6, g7, g8, g9⟩) (hmu _)
   ·have q1 : ¬ k = 99 := fun e => n99 (by rw [e]; rfl)
    have q2 : ¬ k = 115 := fun e => n115 (by rw [e]; rfl)
    have q3 : ¬ k = 105 := fun e => n105 (by rw [e]; rfl)
    intro c7 hc7
    refine swn hc7 (fun _ => ?_) (fun e => absurd e n105)
    rintro _ _ m rfl c6 hc6
    refine swd9 hc6 (fun h6 => ?_) (fun h6 => ?_)
    ·obtain ⟨k0, kr, rfl⟩ : ∃ k0 kr, ks = k0 :: kr := by
      cases ks with
      | nil => simp at h6
      | cons a b => exact ⟨a, b, rfl⟩
     have hk0 := g6 k0 (List.mem_cons_self ..)
     have hz := hexW_size hk0
     refine nd_intro (by simp) (nd_intro (by simp; omega) ?_)
     intro ys hys
     have hys' : ys = kr := by rw [hys]; simp
     subst hys'
     refine use40 (by show ByteArray.size k0 ≤ 100000; omega) ?_
     simp (maxSteps:=9^9) only [go_sem, eq_self, and_self, Int.natCast_pos, Int.le_refl, Nat.le_refl, Int.natCast_nonneg, Int.ofNat_lt, Int.ofNat_le, Int.reduceLT, Int.reduceLE, Int.reduceEq, Int.reduceNe, Int.reduceAdd, Int.reduceSub, Int.reduceMul, Int.reduceToNat, Int.reduceNeg, Nat.reduceEqDiff, Nat.reduceLeDiff, Nat.reduceSub, Nat.reduceMul, Nat.reduceLT, Nat.reduceBEq, Nat.reduceAdd, Nat.reduceDiv, Nat.reduceMod]
     have pend : nd ((1 : Int) ≤ ((ys.length + 1 : Nat) : Int)) (∀ y : List ByteArray, y = List.take (ys.length + 1 - 1) ys → SV.sl p 16 .str ys = SV.sl p 16 .str y) := nd_intro (by omega) (fun y hy => by rw [hy]; simp)
     refine ⟨pend, pend, fun _ => by omega, fun _ => ⟨pend, pend, fun _ _ m5 hm5 => ?_⟩⟩
     rw [w64 (by omega)] at hm5
     rw [hm5, show (j : Int) + 1 = ((j + 1 : Nat) : Int) by omega]
     exact lpE_intro (A := A16 p q okb c) (⟨j + 1, ⟨ws ++ [hexW k0], ys, ns⟩⟩ : G16) rfl (one _ _ _ hz (by simp [prStep, q1, q2, q3]) ⟨fun x hx => g6 x (List.mem_cons_of_mem _ hx), g7, by simp only [List.length_cons] at g8; omega, g9⟩) (hmu _)
    ·have hn : ks = [] := by
      cases ks with
      | nil => rfl
      | cons a b => simp at h6
     subst hn
     intro _ _ m5 hm5
     rw [w64 (by omega)] at hm5
     rw [hm5, show (j : Int) + 1 = ((j + 1 : Nat) : Int) by omega]
     exact lpE_intro (A := A16 p q okb c) (⟨j + 1, ⟨ws, [], ns⟩⟩ : G16) rfl (back _ (by simp [prStep, q1, q2, q3]) g3 (by show ws.length ≤ _; omega) (by show (joinB ws).size ≤ _; omega) ⟨g6, g7, g8, g9⟩) (hmu _)
  ·have hn : j = (prKinds c).length := by omega
   have ew : ws = prWords c := by
    rw [hn, List.drop_length] at g2
    unfold prWords
    rw [← g2]
    rfl
   have et : joinB ws = prText c := by rw [ew]; rfl
   refine ⟨rfl, use41 g3 (by omega) ?_⟩
   rw [et] at g5 ⊢
   simp (maxSteps:=9^9) only [go_sem, eq_self, and_self, Int.natCast_pos, Int.le_refl, Nat.le_refl, Int.natCast_nonneg, Int.ofNat_lt, Int.ofNat_le, Int.reduceLT, Int.reduceLE, Int.reduceEq, Int.reduceNe, Int.reduceAdd, Int.reduceSub, Int.reduceMul, Int.reduceToNat, Int.reduceNeg, Nat.reduceEqDiff, Nat.reduceLeDiff, Nat.reduceSub, Nat.reduceMul, Nat.reduceLT, Nat.reduceBEq, Nat.reduceAdd, Nat.reduceDiv, Nat.reduceMod]
   refine usePp (by omega) (fun e he => ?_) (fun d hd => ?_)
   ·have hnone := print_none (c := c) (by rw [he]; simp)
    have h3 := h1 hnone
    rcases errPp he with rfl | rfl
    ·simp (maxSteps:=9^9) only [zeroC, go_sem, eq_self, and_self, Int.natCast_pos, Int.le_refl, Nat.le_refl, Int.natCast_nonneg, Int.ofNat_lt, Int.ofNat_le, Int.reduceLT, Int.reduceLE, Int.reduceEq, Int.reduceNe, Int.reduceAdd, Int.reduceSub, Int.reduceMul, Int.reduceToNat, Int.reduceNeg, Nat.reduceEqDiff, Nat.reduceLeDiff, Nat.reduceSub, Nat.reduceMul, Nat.reduceLT, Nat.reduceBEq, Nat.reduceAdd, Nat.reduceDiv, Nat.reduceMod]
     exact sw_intro (fun _ => h3) (fun _ => h3)
    ·simp (maxSteps:=9^9) only [zeroC, go_sem, eq_self, and_self, Int.natCast_pos, Int.le_refl, Nat.le_refl, Int.natCast_nonneg, Int.ofNat_lt, Int.ofNat_le, Int.reduceLT, Int.reduceLE, Int.reduceEq, Int.reduceNe, Int.reduceAdd, Int.reduceSub, Int.reduceMul, Int.reduceToNat, Int.reduceNeg, Nat.reduceEqDiff, Nat.reduceLeDiff, Nat.reduceSub, Nat.reduceMul, Nat.reduceLT, Nat.reduceBEq, Nat.reduceAdd, Nat.reduceDiv, Nat.reduceMod]
     exact sw_intro (fun _ => h3) (fun _ => h3)
   ·have hne : ¬ d = c → K (.tup [.str ByteArray.empty, .int .i64 1]) [] := fun e => h1 (print_none (by rw [hd]; intro e'; exact e (Except.ok.inj e')))
    simp (maxSteps:=9^9) only [cmdV, go_sem, eq_self, and_self, Int.natCast_pos, Int.le_refl, Nat.le_refl, Int.natCast_nonneg, Int.ofNat_lt, Int.ofNat_le, Int.reduceLT, Int.reduceLE, Int.reduceEq, Int.reduceNe, Int.reduceAdd, Int.reduceSub, Int.reduceMul, Int.reduceToNat, Int.reduceNeg, Nat.reduceEqDiff, Nat.reduceLeDiff, Nat.reduceSub, Nat.reduceMul, Nat.reduceLT, Nat.reduceBEq, Nat.reduceAdd, Nat.reduceDiv, Nat.reduceMod]
    refine sw_intro (fun ho => ?_) (fun ho => ?_)
    ·intro c3 hc3
     refine swn hc3 (fun e => hne (fun e' => e (by rw [e']))) (fun e1 => ?_)
     intro c4 hc4
     refine swn hc4 (fun e => hne (fun e' => e (by rw [e']))) (fun e2 => ?_)
     intro c5 hc5
     refine swn hc5 (fun e => hne (fun e' => e (by rw [e']))) (fun e3 => ?_)
     refine use42 ?_
     by_cases e4 : (d.keys : List ByteArray) = c.keys
     ·rw [decide_eq_true e4]
      simp (maxSteps:=9^9) only [go_sem, eq_self, and_self, Int.natCast_pos, Int.le_refl, Nat.le_refl, Int.natCast_nonneg, Int.ofNat_lt, Int.ofNat_le, Int.reduceLT, Int.reduceLE, Int.reduceEq, Int.reduceNe, Int.reduceAdd, Int.reduceSub, Int.reduceMul, Int.reduceToNat, Int.reduceNeg, Nat.reduceEqDiff, Nat.reduceLeDiff, Nat.reduceSub, Nat.reduceMul, Nat.reduceLT, Nat.reduceBEq, Nat.reduceAdd, Nat.reduceDiv, Nat.reduceMod]
      refine use43 ?_
      by_cases e5 : (d.ints : List Int) = c.ints
      ·rw [decide_eq_true e5]
       simp (maxSteps:=9^9) only [go_sem, eq_self, and_self, Int.natCast_pos, Int.le_refl, Nat.le_refl, Int.natCast_nonneg, Int.ofNat_lt, Int.ofNat_le, Int.reduceLT, Int.reduceLE, Int.reduceEq, Int.reduceNe, Int.reduceAdd, Int.reduceSub, Int.reduceMul, Int.reduceToNat, Int.reduceNeg, Nat.reduceEqDiff, Nat.reduceLeDiff, Nat.reduceSub, Nat.reduceMul, Nat.reduceLT, Nat.reduceBEq, Nat.reduceAdd, Nat.reduceDiv, Nat.reduceMod]
       have hdc : d = c := of_decide_eq_true ((cmd_eq d c).symm.trans (decide_eq_true ⟨e1, e2, e3, e4, e5⟩))
       exact h2 _ ((print_iff c _).2 ⟨rfl, by rw [hd, hdc]⟩)
      ·rw [decide_eq_false e5]
       simp (maxSteps:=9^9) only [go_sem, eq_self, and_self, Int.natCast_pos, Int.le_refl, Nat.le_refl, Int.natCast_nonneg, Int.ofNat_lt, Int.ofNat_le, Int.reduceLT, Int.reduceLE, Int.reduceEq, Int.reduceNe, Int.reduceAdd, Int.reduceSub, Int.reduceMul, Int.reduceToNat, Int.reduceNeg, Nat.reduceEqDiff, Nat.reduceLeDiff, Nat.reduceSub, Nat.reduceMul, Nat.reduceLT, Nat.reduceBEq, Nat.reduceAdd, Nat.reduceDiv, Nat.reduceMod]
       exact hne (fun e' => e5 (by rw [e']))
     ·rw [decide_eq_false e4]
      simp (maxSteps:=9^9) only [go_sem, eq_self, and_self, Int.natCast_pos, Int.le_refl, Nat.le_refl, Int.natCast_nonneg, Int.ofNat_lt, Int.ofNat_le, Int.reduceLT, Int.reduceLE, Int.reduceEq, Int.reduceNe, Int.reduceAdd, Int.reduceSub, Int.reduceMul, Int.reduceToNat, Int.reduceNeg, Nat.reduceEqDiff, Nat.reduceLeDiff, Nat.reduceSub, Nat.reduceMul, Nat.reduceLT, Nat.reduceBEq, Nat.reduceAdd, Nat.reduceDiv, Nat.reduceMod]
      exact hne (fun e' => e4 (by rw [e']))
    ·refine h1 (print_none (fun hp => ?_))
     obtain ⟨n, hn⟩ := (print_same c).2.2 ⟨_, hp⟩
     have := kinds_all hn (3 + c.ints.length)
     rw [hok, ho] at this
     cases this
 ·exact h.elim
end Go.V
namespace Go.Proofs
set_option linter.unusedSimpArgs false
set_option linter.unnecessarySimpa false
open Go.Shelf Go.RowKit
set_option linter.unusedVariables false
set_option maxHeartbeats 1000000
set_option maxRecDepth 100000
theorem add243 (b off : Nat) (x n : Int) (w : World) (hc : w.cell? ⟨b, off, none⟩ = some (.int .u64 x)) (hz : w.frozen? ⟨b, off, none⟩ = false) :
  Calls Tryz.prog 243 #[.pointer (some ⟨b, off, none⟩), .int .u64 n] w fun e w' => e = .returned (.int .u64 (IntKind.u64.wrap (x + n))) ∧ w' = w.setCell ⟨b, off, none⟩ (.int .u64 (IntKind.u64.wrap (x + n))) := by
 have hadd := run_call_add (P := Tryz.prog) Tryz.func298 (by kernel_rfl) (by kernel_rfl) (by kernel_rfl) .u64 (by kernel_rfl) hc hz (y := n) (s := IntKind.u64.wrap (x + n)) (by simp [Op.intArith])
 go_enter Tryz.func243, Tryz.ntmps243
 go_wp2
 go_ret
 exact ⟨rfl, rfl⟩
theorem at242 (b : Nat) (w : World) : Calls Tryz.prog 242 #[.pointer (some ⟨b, 0, none⟩), .int .i64 0] w fun e w' => e = .returned (.pointer (some ⟨b, 0, none⟩)) ∧ w' = w := by
 go_enter Tryz.func242, Tryz.ntmps242
 go_wp2
 go_ret
 exact ⟨rfl, rfl⟩
theorem add161 (b : Nat) (x n : Int) (w : World) (hc : w.cell? ⟨b, 0, none⟩ = some (.int .u64 x)) (hz : w.frozen? ⟨b, 0, none⟩ = false) :
  Calls Tryz.prog 161 #[.pointer (some ⟨b, 0, none⟩), .int .i64 0, .int .u64 n] w fun e w' => e = .returned (.int .u64 (IntKind.u64.wrap (x + n))) ∧ w' = w.setCell ⟨b, 0, none⟩ (.int .u64 (IntKind.u64.wrap (x + n))) := by
 have h1 := at242 b w
 have h2 := add243 b 0 x n w hc hz
 go_enter Tryz.func161, Tryz.ntmps161
 go_wp2_with (first | (go_at_call 242; refine h1.mono ?_; rintro e w' ⟨rfl, rfl⟩) | (go_at_call 243; refine h2.mono ?_; rintro e w' ⟨rfl, rfl⟩))
 go_ret
 exact ⟨rfl, rfl⟩
end Go.Proofs
