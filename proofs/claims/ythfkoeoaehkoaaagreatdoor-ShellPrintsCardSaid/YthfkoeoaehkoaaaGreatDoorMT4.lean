/- A part of the proof layer, or functions of the given program in it: contracts and their proofs. -/
import Derived.Test.YthfkoeoaehkoaaaGreatDoorMS11
import Derived.Shelf.Strings.OnBuilder
namespace Go.V
open Go.Proofs Go.Shelf Go.RowKit
set_option maxRecDepth 100000
set_option maxHeartbeats 8000000
set_option linter.unusedSimpArgs false
set_option linter.unnecessarySimpa false
set_option linter.unusedVariables false
attribute [local irreducible] rc
/-! ### lists alike, in the package -/
def C42 : Contract := fun args hp K => match args, hp with
 | [.sl p 16 .str xs, .sl q 16 .str ys], [] => K (.bool (decide ((xs : List ByteArray) = ys))) []
 | _, _ => False
def Le42 (p q : Bool) (xs ys : List ByteArray) : LoopAnn := { G := Nat, I := fun i => ⟨[(0, .sl p 16 .str xs), (1, .sl q 16 .str ys), (12, .int .i64 xs.length), (13, .int .i64 i)], []⟩, R := fun _ i => i ≤ xs.length ∧ xs.take i = ys.take i, μ := fun i => xs.length - i }
theorem Le42_I {p q} {xs ys : List ByteArray} (i : Nat) : (Le42 p q xs ys).I i = ⟨[(0, .sl p 16 .str xs), (1, .sl q 16 .str ys), (12, .int .i64 xs.length), (13, .int .i64 i)], []⟩ := rfl
theorem s42 : Sound Tryz.prog 42 C42 := by
 refine sound_of_okF ok42 .nil ?_
 intro args hp K h
 unfold C42 at h
 split at h
 ·rename_i p xs q ys
  have hmx := maxLen_val
  refine ⟨by simp, [(1, Le42 p q xs ys)], ?_⟩
  simp (maxSteps:=9^9) only [a42, r42, go_sem, eq_self, and_self, Int.natCast_pos, Int.le_refl, Nat.le_refl, Int.natCast_nonneg, Int.ofNat_lt, Int.ofNat_le, Int.reduceLT, Int.reduceLE, Int.reduceEq, Int.reduceNe, Int.reduceAdd, Int.reduceSub, Int.reduceMul, Int.reduceToNat, Int.reduceNeg, Nat.reduceEqDiff, Nat.reduceLeDiff, Nat.reduceSub, Nat.reduceMul, Nat.reduceLT, Nat.reduceBEq, Nat.reduceAdd, Nat.reduceDiv, Nat.reduceMod]
  have hf : ¬ (xs : List ByteArray) = ys → K (.bool false) [] := fun hne => by rw [decide_eq_false hne] at h; exact h
  have ht : (xs : List ByteArray) = ys → K (.bool true) [] := fun e => by rw [decide_eq_true e] at h; exact h
  rintro _ _ m hm _ _ m2 hm2 c3 hc3
  refine swn hc3 (fun h0 => hf (fun e => h0 (by rw [hm, hm2, e]))) (fun h0 => ?_)
  have hl1 : xs.length = ys.length := by omega
  rintro _ _ _ rfl
  refine loop_intro (A := Le42 p q xs ys) (0 : Nat) ?_ ⟨by simp, by simp⟩ ?_
  ·simp (maxSteps:=9^9) only [Le42_I, go_sem, eq_self, and_self, Int.natCast_pos, Int.le_refl, Nat.le_refl, Int.natCast_nonneg, Int.ofNat_lt, Int.ofNat_le, Int.reduceLT, Int.reduceLE, Int.reduceEq, Int.reduceNe, Int.reduceAdd, Int.reduceSub, Int.reduceMul, Int.reduceToNat, Int.reduceNeg, Nat.reduceEqDiff, Nat.reduceLeDiff, Nat.reduceSub, Nat.reduceMul, Nat.reduceLT, Nat.reduceBEq, Nat.reduceAdd, Nat.reduceDiv, Nat.reduceMod]
   rfl
  ·rintro (i : Nat) (⟨g1, g2⟩ : i ≤ xs.length ∧ (xs : List ByteArray).take i = (ys : List ByteArray).take i)
   simp (maxSteps:=9^9) only [Le42_I, go_sem, eq_self, and_self, Int.natCast_pos, Int.le_refl, Nat.le_refl, Int.natCast_nonneg, Int.ofNat_lt, Int.ofNat_le, Int.reduceLT, Int.reduceLE, Int.reduceEq, Int.reduceNe, Int.reduceAdd, Int.reduceSub, Int.reduceMul, Int.reduceToNat, Int.reduceNeg, Nat.reduceEqDiff, Nat.reduceLeDiff, Nat.reduceSub, Nat.reduceMul, Nat.reduceLT, Nat.reduceBEq, Nat.reduceAdd, Nat.reduceDiv, Nat.reduceMod]
   intro c5 hc5
   refine swd hc5 (fun h2 => ?_) (fun h2 => ?_)
   ·refine nd_intro h2 (nd_intro (by omega) ?_)
    intro c6 hc6
    refine swn hc6 (fun h3 => hf (fun e => h3 (by rw [e]))) (fun h3 => ?_)
    rintro _ _ m5 hm5
    rw [w64 (by omega)] at hm5
    rw [hm5, show (i : Int) + 1 = ((i + 1 : Nat) : Int) by omega]
    exact lpE_intro (A := Le42 p q xs ys) (i + 1 : Nat) rfl ⟨h2, take_next (t := .str) h2 (by omega) g2 h3⟩ (by show xs.length - (i + 1) < xs.length - i; omega)
   ·refine ht ?_
    rw [List.take_of_length_le (by omega), List.take_of_length_le (by omega)] at g2
    exact g2
 ·exact h.elim
def C43 : Contract := fun args hp K => match args, hp with
 | [.sl p 8 (.int .i64) xs, .sl q 8 (.int .i64) ys], [] => K (.bool (decide ((xs : List Int) = ys))) []
 | _, _ => False
def Le43 (p q : Bool) (xs ys : List Int) : LoopAnn := { G := Nat, I := fun i => ⟨[(0, .sl p 8 (.int .i64) xs), (1, .sl q 8 (.int .i64) ys), (12, .int .i64 xs.length), (13, .int .i64 i)], []⟩, R := fun _ i => i ≤ xs.length ∧ xs.take i = ys.take i, μ := fun i => xs.length - i }
theorem Le43_I {p q} {xs ys : List Int} (i : Nat) : (Le43 p q xs ys).I i = ⟨[(0, .sl p 8 (.int .i64) xs), (1, .sl q 8 (.int .i64) ys), (12, .int .i64 xs.length), (13, .int .i64 i)], []⟩ := rfl
theorem s43 : Sound Tryz.prog 43 C43 := by
 refine sound_of_okF ok43 .nil ?_
 intro args hp K h
 unfold C43 at h
 split at h
 ·rename_i p xs q ys
  have hmx := maxLen_val
  refine ⟨by simp, [(1, Le43 p q xs ys)], ?_⟩
  simp (maxSteps:=9^9) only [a43, r43, go_sem, eq_self, and_self, Int.natCast_pos, Int.le_refl, Nat.le_refl, Int.natCast_nonneg, Int.ofNat_lt, Int.ofNat_le, Int.reduceLT, Int.reduceLE, Int.reduceEq, Int.reduceNe, Int.reduceAdd, Int.reduceSub, Int.reduceMul, Int.reduceToNat, Int.reduceNeg, Nat.reduceEqDiff, Nat.reduceLeDiff, Nat.reduceSub, Nat.reduceMul, Nat.reduceLT, Nat.reduceBEq, Nat.reduceAdd, Nat.reduceDiv, Nat.reduceMod]
  have hf : ¬ (xs : List Int) = ys → K (.bool false) [] := fun hne => by rw [decide_eq_false hne] at h; exact h
  have ht : (xs : List Int) = ys → K (.bool true) [] := fun e => by rw [decide_eq_true e] at h; exact h
  rintro _ _ m hm _ _ m2 hm2 c3 hc3
  refine swn hc3 (fun h0 => hf (fun e => h0 (by rw [hm, hm2, e]))) (fun h0 => ?_)
  have hl1 : xs.length = ys.length := by omega
  rintro _ _ _ rfl
  refine loop_intro (A := Le43 p q xs ys) (0 : Nat) ?_ ⟨by simp, by simp⟩ ?_
  ·simp (maxSteps:=9^9) only [Le43_I, go_sem, eq_self, and_self, Int.natCast_pos, Int.le_refl, Nat.le_refl, Int.natCast_nonneg, Int.ofNat_lt, Int.ofNat_le, Int.reduceLT, Int.reduceLE, Int.reduceEq, Int.reduceNe, Int.reduceAdd, Int.reduceSub, Int.reduceMul, Int.reduceToNat, Int.reduceNeg, Nat.reduceEqDiff, Nat.reduceLeDiff, Nat.reduceSub, Nat.reduceMul, Nat.reduceLT, Nat.reduceBEq, Nat.reduceAdd, Nat.reduceDiv, Nat.reduceMod]
   rfl
  ·rintro (i : Nat) (⟨g1, g2⟩ : i ≤ xs.length ∧ (xs : List Int).take i = (ys : List Int).take i)
   simp (maxSteps:=9^9) only [Le43_I, go_sem, eq_self, and_self, Int.natCast_pos, Int.le_refl, Nat.le_refl, Int.natCast_nonneg, Int.ofNat_lt, Int.ofNat_le, Int.reduceLT, Int.reduceLE, Int.reduceEq, Int.reduceNe, Int.reduceAdd, Int.reduceSub, Int.reduceMul, Int.reduceToNat, Int.reduceNeg, Nat.reduceEqDiff, Nat.reduceLeDiff, Nat.reduceSub, Nat.reduceMul, Nat.reduceLT, Nat.reduceBEq, Nat.reduceAdd, Nat.reduceDiv, Nat.reduceMod]
   intro c5 hc5
   refine swd hc5 (fun h2 => ?_) (fun h2 => ?_)
   ·refine nd_intro h2 (nd_intro (by omega) ?_)
    intro c6 hc6
    refine swn hc6 (fun h3 => hf (fun e => h3 (by rw [e]))) (fun h3 => ?_)
    rintro _ _ m5 hm5
    rw [w64 (by omega)] at hm5
    rw [hm5, show (i : Int) + 1 = ((i + 1 : Nat) : Int) by omega]
    exact lpE_intro (A := Le43 p q xs ys) (i + 1 : Nat) rfl ⟨h2, take_next (t := .int .i64) h2 (by omega) g2 h3⟩ (by show xs.length - (i + 1) < xs.length - i; omega)
   ·refine ht ?_
    rw [List.take_of_length_le (by omega), List.take_of_length_le (by omega)] at g2
    exact g2
 ·exact h.elim
/-! ### numbers and keys as words -/
def C40 : Contract := fun args hp K => match args, hp with
 | [.str s], [] => s.size ≤ 100000 ∧ K (.str (hexW s)) []
 | _, _ => False
theorem s40 : Sound Tryz.prog 40 C40 := by
 refine sound_of_okF ok40 (.cons s97 (callable_of_okF ok97) .nil) ?_
 intro args hp K h
 unfold C40 at h
 split at h
 ·rename_i s
  obtain ⟨hs, h⟩ := h
  refine ⟨by simp, [], ?_⟩
  unfold hexW at h
  simp (maxSteps:=9^9) only [a40, r40, C97, go_sem, eq_self, and_self, Int.natCast_pos, Int.le_refl, Nat.le_refl, Int.natCast_nonneg, Int.ofNat_lt, Int.ofNat_le, Int.reduceLT, Int.reduceLE, Int.reduceEq, Int.reduceNe, Int.reduceAdd, Int.reduceSub, Int.reduceMul, Int.reduceToNat, Int.reduceNeg, Nat.reduceEqDiff, Nat.reduceLeDiff, Nat.reduceSub, Nat.reduceMul, Nat.reduceLT, Nat.reduceBEq, Nat.reduceAdd, Nat.reduceDiv, Nat.reduceMod]
  intro c hc
  refine swd9 hc (fun e => ?_) (fun e => ?_)
  ·rw [if_pos e] at h
   exact h
  ·rw [if_neg e] at h
   exact ⟨hs, h⟩
 ·exact h.elim
def C101 : Contract := fun args hp K => match args, hp with
 | [.str s], [] => s.size ≤ 100000 ∧ K (.str (hexW s)) []
 | _, _ => False
theorem s101 : Sound Tryz.prog 101 C101 := by
 refine sound_of_okF ok101 (.cons s178 (callable_of_okF ok178) .nil) ?_
 intro args hp K h
 unfold C101 at h
 split at h
 ·rename_i s
  obtain ⟨hs, h⟩ := h
  refine ⟨by simp, [], ?_⟩
  unfold hexW at h
  simp (maxSteps:=9^9) only [a101, r101, C178, go_sem, eq_self, and_self, Int.natCast_pos, Int.le_refl, Nat.le_refl, Int.natCast_nonneg, Int.ofNat_lt, Int.ofNat_le, Int.reduceLT, Int.reduceLE, Int.reduceEq, Int.reduceNe, Int.reduceAdd, Int.reduceSub, Int.reduceMul, Int.reduceToNat, Int.reduceNeg, Nat.reduceEqDiff, Nat.reduceLeDiff, Nat.reduceSub, Nat.reduceMul, Nat.reduceLT, Nat.reduceBEq, Nat.reduceAdd, Nat.reduceDiv, Nat.reduceMod]
  intro c hc
  refine swd9 hc (fun e => ?_) (fun e => ?_)
  ·rw [if_pos e] at h
   exact h
  ·rw [if_neg e] at h
   exact ⟨hs, h⟩
 ·exact h.elim
def C100 : Contract := fun args hp K => match args, hp with
 | [.int .u64 n], [] => (utoaB n.toNat).size ≤ maxLen ∧ K (.str (utoaB n.toNat)) []
 | _, _ => False
theorem s100 : Sound Tryz.prog 100 C100 := by
 refine sound_of_okF ok100 (.cons s38 ⟨_, Tryz.func38, rfl, by decide⟩ .nil) ?_
 intro args hp K h
 unfold C100 at h
 split at h
 ·rename_i n
  refine ⟨by simp, [], ?_⟩
  simp (maxSteps:=9^9) only [a100, r100, C38, go_sem, eq_self, and_self, Int.natCast_pos, Int.le_refl, Nat.le_refl, Int.natCast_nonneg, Int.ofNat_lt, Int.ofNat_le, Int.reduceLT, Int.reduceLE, Int.reduceEq, Int.reduceNe, Int.reduceAdd, Int.reduceSub, Int.reduceMul, Int.reduceToNat, Int.reduceNeg, Nat.reduceEqDiff, Nat.reduceLeDiff, Nat.reduceSub, Nat.reduceMul, Nat.reduceLT, Nat.reduceBEq, Nat.reduceAdd, Nat.reduceDiv, Nat.reduceMod]
  exact h
 ·exact h.elim
def C102 : Contract := fun args hp K => match args, hp with
 | [.int .i64 n], [] => (itoaB n).size ≤ maxLen ∧ K (.str (itoaB n)) []
 | _, _ => False
theorem s102 : Sound Tryz.prog 102 C102 := by
 refine sound_of_okF ok102 (.cons s39 ⟨_, Tryz.func39, rfl, by decide⟩ .nil) ?_
 intro args hp K h
 unfold C102 at h
 split at h
 ·rename_i n
  refine ⟨by simp, [], ?_⟩
  simp (maxSteps:=9^9) only [a102, r102, C39, go_sem, eq_self, and_self, Int.natCast_pos, Int.le_refl, Nat.le_refl, Int.natCast_nonneg, Int.ofNat_lt, Int.ofNat_le, Int.reduceLT, Int.reduceLE, Int.reduceEq, Int.reduceNe, Int.reduceAdd, Int.reduceSub, Int.reduceMul, Int.reduceToNat, Int.reduceNeg, Nat.reduceEqDiff, Nat.reduceLeDiff, Nat.reduceSub, Nat.reduceMul, Nat.reduceLT, Nat.reduceBEq, Nat.reduceAdd, Nat.reduceDiv, Nat.reduceMod]
  exact h
 ·exact h.elim
theorem jn_extra : Builder.Extra Tryz.prog Tryz.jn_ren where
 sizeBuilder := by kernel_rfl
 liesBuilder := by kernel_rfl
 t5 := Tryz.underlying5
 a5 := Tryz.isAgg5
 z5 := Tryz.sizeOf5
 v5 := Tryz.zeroValue5
 infoByte := by kernel_rfl
 cellsByte := by kernel_rfl
 sizeByte := by kernel_rfl
 neB5 := by decide
theorem join_lib : ∀ ws : List ByteArray, bsOf (Lib.join (ws.map (·.data.toList)) [32]) = joinB ws
 | [] => rfl
 | w :: r => by
  rw [List.map_cons, Lib.join_cons]
  have key : ∀ (r : List ByteArray) (x : ByteArray), bsOf (x.data.toList ++ Lib.joinTail [32] (r.map (·.data.toList))) = r.foldl addW x := by
   intro r
   induction r with
   | nil => intro x; simp [Lib.joinTail, bs_back]
   | cons y r ih =>
    intro x
    have e : x.data.toList ++ Lib.joinTail [32] ((y :: r).map (·.data.toList)) = (addW x y).data.toList ++ Lib.joinTail [32] (r.map (·.data.toList)) := by
     simp [Lib.joinTail, addW, blankB, ByteArray.data_append]
    rw [e, ih]
    rfl
  exact key r w
theorem rdL_strs {w : World} {F : Nat → Prop} : ∀ (xs : List ByteArray) (cs : List Value), rdL (rd w F .str) xs cs → cs = xs.map Value.string
 | [], cs, h => by simpa [rdL] using h
 | x :: xs, cs, h => by
  obtain ⟨c1, c2, rfl, h1, h2⟩ := h
  simp only [rd] at h1
  rw [h1.1, rdL_strs xs c2 h2]
  rfl
def C41 : Contract := fun args hp K => match args, hp with
 | [.sl p 16 .str ws, .str sep], [] => sep = blankB ∧ ws ≠ [] ∧ (joinB ws).size ≤ 1000000 ∧ K (.str (joinB ws)) []
 | _, _ => False
theorem s41 : Sound Tryz.prog 41 C41 := by
 refine sound_plain ?_
 intro args hp K h E vs hg hd
 unfold C41 at h
 split at h
 ·rename_i p ws sep
  obtain ⟨rfl, hne, hsz, h⟩ := h
  simp only [denL] at hd
  obtain ⟨v, r, rfl, d1, v2, r2, rfl, d2, rfl⟩ := hd
  simp only [den] at d1 d2
  obtain ⟨rfl, _⟩ := d2
  rcases d1 with ⟨e, _⟩ | ⟨b, off, cap, cur, T, fr, cs, rfl, h2, h3, h4, h5, h6, h7, h8⟩
  ·exact absurd e hne
  ·have hm := maxLen_val
   have hlt : b < E.w.heap.size := (Array.getElem?_eq_some_iff.1 h3).1
   have hjl : (Lib.join (ws.map (·.data.toList)) blankB.data.toList).length ≤ 140737488355328 := by
    have := bsOf_size (Lib.join (ws.map (·.data.toList)) [32])
    rw [join_lib] at this
    have e : blankB.data.toList = [32] := rfl
    rw [e]
    omega
   refine (Any.strings_Join Tryz.jn jn_extra b off cap ws blankB E.w ?_ hlt (by omega) h4 hjl).mono ?_
   ·intro j x hj
    have hcs := rdL_strs ws cs h8
    have hlen : j < ws.length := (List.getElem?_eq_some_iff.1 hj).1
    have h9 : ((cur.toList.drop off).take (ws.length * 1))[j]? = some (Value.string x) := by
     have h7' : (cur.toList.drop off).take (ws.length * 1) = cs := h7
     rw [h7', hcs, List.getElem?_map, hj]
     rfl
    rw [Nat.mul_one, List.getElem?_take, if_pos hlen, List.getElem?_drop] at h9
    simp [World.cell?, h3, ← Array.getElem?_toList, h9]
   ·rintro e w' ⟨rfl, hb⟩
    refine ⟨_, _, rfl, Chg.below hb, h, fun E' => ?_⟩
    simp only [den]
    have e := join_lib ws
    have e1 : blankB.data.toList = [32] := rfl
    rw [e1]
    exact ⟨congrArg Value.string e, by omega⟩
 ·exact h.elim
theorem s41_c : Callable Tryz.prog 41 := ⟨_, Tryz.func41, rfl, by decide⟩
end Go.V
namespace Go.V
set_option linter.unusedSimpArgs false
set_option linter.unnecessarySimpa false
set_option linter.unusedVariables false
open Go.Lib (decDigits itoa)
structure cmdOk (c : Cmd) : Prop where
 w : c.word.size ≤ 1000
 k : ∀ k ∈ c.keys, k.size ≤ 1000
 kl : c.keys.length ≤ 101
 nl : c.ints.length ≤ 500
 cl : c.client ≤ 18446744073709551615
 se : c.serial ≤ 18446744073709551615
 n : ∀ x ∈ c.ints, inR .i64 x
/-! ### sizes -/
theorem hexW_size {x : ByteArray} (h : x.size ≤ 1000) : (hexW x).size ≤ 2000 := by
 unfold hexW
 split
 ·decide
 ·unfold hexB
  rw [bsOf_size, hexL_len, size_list]
  omega
theorem utoaB_size {n : Nat} (h : n ≤ 18446744073709551615) : (utoaB n).size ≤ 20 := by
 unfold utoaB
 rw [bsOf_size]
 exact dec_len 19 n (by omega)
theorem itoaB_size {n : Int} (h : inR .i64 n) : (itoaB n).size ≤ 20 := by
 have h1 : (-9223372036854775808 : Int) ≤ n ∧ n ≤ 9223372036854775807 := h
 unfold itoaB
 rw [bsOf_size]
 unfold itoa
 split
 ·have := dec_len 18 n.natAbs (by omega)
  simp only [List.length_cons]
  omega
 ·have := dec_len 18 n.toNat (by omega)
  omega
theorem addW_le {s w : ByteArray} {a : Nat} (h1 : s.size ≤ a) (h2 : w.size ≤ 2000) : (addW s w).size ≤ a + 2001 := by
 rw [addW_size]
 omega
end Go.V
namespace Go.V
open Go.Proofs
set_option maxRecDepth 100000
set_option maxHeartbeats 8000000
set_option linter.unusedSimpArgs false
set_option linter.unnecessarySimpa false
set_option linter.unusedVariables false
attribute [local irreducible] rc
/-! ### few, theirs -/
def C15 : Contract := fun args hp K => match args, hp with
 | [.agg [.str w, .sl p 16 .str ks, .int .u64 c, .int .u64 s, .sl q 8 (.int .i64) ns]], [] => ∀ b : Bool, (b = true → (∀ k ∈ (ks : List ByteArray), k.size ≤ 1000) ∧ ks.length ≤ 101 ∧ ns.length ≤ 500 ∧ w.size ≤ 1000) → K (.bool b) []
 | _, _ => False
def L15 (w : ByteArray) (p q : Bool) (ks : List ByteArray) (c s : Int) (ns : List Int) : LoopAnn := {
 G := Nat
 I := fun i => ⟨[(1, .ptr 0 0), (6, .int .i64 ks.length), (7, .int .i64 i)], [.struct [.str w, .sl p 16 .str ks, .int .u64 c, .int .u64 s, .sl q 8 (.int .i64) ns]]⟩
 R := fun _ i => i ≤ ks.length ∧ (∀ k ∈ ks.take i, k.size ≤ 1000) ∧ i ≤ 101
 μ := fun i => ks.length - i }
theorem L15_I {w p q ks c s ns} (i : Nat) : (L15 w p q ks c s ns).I i = ⟨[(1, .ptr 0 0), (6, .int .i64 ks.length), (7, .int .i64 i)], [.struct [.str w, .sl p 16 .str ks, .int .u64 c, .int .u64 s, .sl q 8 (.int .i64) ns]]⟩ := rfl
theorem s15 : Sound Tryz.prog 15 C15 := by
 refine sound_of_okF ok15 .nil ?_
 intro args hp K h
 unfold C15 at h
 split at h
 ·rename_i w p ks c s q ns
  refine ⟨by simp, [(1, L15 w p q ks c s ns)], ?_⟩
  have hmx := maxLen_val
  simp (maxSteps:=9^9) only [a15, r15, go_sem, eq_self, and_self, Int.natCast_pos, Int.le_refl, Nat.le_refl, Int.natCast_nonneg, Int.ofNat_lt, Int.ofNat_le, Int.reduceLT, Int.reduceLE, Int.reduceEq, Int.reduceNe, Int.reduceAdd, Int.reduceSub, Int.reduceMul, Int.reduceToNat, Int.reduceNeg, Nat.reduceEqDiff, Nat.reduceLeDiff, Nat.reduceSub, Nat.reduceMul, Nat.reduceLT, Nat.reduceBEq, Nat.reduceAdd, Nat.reduceDiv, Nat.reduceMod]
  rintro _ _ m rfl
  refine loop_intro (A := L15 w p q ks c s ns) (0 : Nat) ?_ ⟨Nat.zero_le _, by simp, Nat.zero_le _⟩ ?_
  ·simp (maxSteps:=9^9) only [L15_I, go_sem, eq_self, and_self, Int.natCast_pos, Int.le_refl, Nat.le_refl, Int.natCast_nonneg, Int.ofNat_lt, Int.ofNat_le, Int.reduceLT, Int.reduceLE, Int.reduceEq, Int.reduceNe, Int.reduceAdd, Int.reduceSub, Int.reduceMul, Int.reduceToNat, Int.reduceNeg, Nat.reduceEqDiff, Nat.reduceLeDiff, Nat.reduceSub, Nat.reduceMul, Nat.reduceLT, Nat.reduceBEq, Nat.reduceAdd, Nat.reduceDiv, Nat.reduceMod]
   rfl
  rintro (i : Nat) (⟨g1, g2, g3⟩ : i ≤ ks.length ∧ (∀ k ∈ (ks : List ByteArray).take i, ByteArray.size k ≤ 1000) ∧ i ≤ 101)
  simp (maxSteps:=9^9) only [L15_I, go_sem, eq_self, and_self, Int.natCast_pos, Int.le_refl, Nat.le_refl, Int.natCast_nonneg, Int.ofNat_lt, Int.ofNat_le, Int.reduceLT, Int.reduceLE, Int.reduceEq, Int.reduceNe, Int.reduceAdd, Int.reduceSub, Int.reduceMul, Int.reduceToNat, Int.reduceNeg, Nat.reduceEqDiff, Nat.reduceLeDiff, Nat.reduceSub, Nat.reduceMul, Nat.reduceLT, Nat.reduceBEq, Nat.reduceAdd, Nat.reduceDiv, Nat.reduceMod]
  intro c5 hc5
  refine swd9 hc5 (fun h2 => ?_) (fun h2 => ?_)
  ·refine nd_intro h2 ?_
   rintro _ _ rfl c6 hc6
   refine swd9 hc6 (fun h3 => h false (by simp)) (fun h3 => ?_)
   intro c7 hc7
   refine swd9 hc7 (fun h4 => h false (by simp)) (fun h4 => ?_)
   intro _ _ m5 hm5
   rw [w64 (by omega)] at hm5
   rw [hm5, show (i : Int) + 1 = ((i + 1 : Nat) : Int) by omega]
   refine lpE_intro (A := L15 w p q ks c s ns) (i + 1 : Nat) rfl ⟨h2, fun k hk => ?_, by omega⟩ (by show ks.length - (i + 1) < ks.length - i; omega)
   rw [← take_elt (t := .str) h2] at hk
   rcases List.mem_append.1 hk with hk | hk
   ·exact g2 k hk
   ·rw [List.mem_singleton.1 hk]
    omega
  ·have g4 : ∀ k ∈ (ks : List ByteArray), ByteArray.size k ≤ 1000 := by
    rw [List.take_of_length_le (by omega)] at g2
    exact g2
   rintro _ _ _ rfl c6 hc6
   refine swd9 hc6 (fun h3 => ?_) (fun h3 => h false (by simp))
   rintro _ _ rfl c7 hc7
   refine h c7 (fun e => ?_)
   rw [hc7] at e
   have := of_decide_eq_true e
   exact ⟨g4, by omega, by omega, by omega⟩
 ·exact h.elim
def C17 : Contract := fun args hp K => match args, hp with
 | [.agg [.str w, .sl p 16 .str ks, .int .u64 c, .int .u64 s, .sl q 8 (.int .i64) ns]], [] => ks.length ≤ 100000 ∧ ns.length ≤ 100000 ∧ K (.agg [.str w, .sl true 16 .str ks, .int .u64 c, .int .u64 s, .sl true 8 (.int .i64) ns]) []
 | _, _ => False
theorem s17 : Sound Tryz.prog 17 C17 := by
 refine sound_of_okF ok17 .nil ?_
 intro args hp K h
 unfold C17 at h
 split at h
 ·rename_i w p ks c s q ns
  refine ⟨by simp, [], ?_⟩
  have hmx := maxLen_val
  simp (maxSteps:=9^9) only [a17, r17, go_sem, eq_self, and_self, Int.natCast_pos, Int.le_refl, Nat.le_refl, Int.natCast_nonneg, Int.ofNat_lt, Int.ofNat_le, Int.reduceLT, Int.reduceLE, Int.reduceEq, Int.reduceNe, Int.reduceAdd, Int.reduceSub, Int.reduceMul, Int.reduceToNat, Int.reduceNeg, Nat.reduceEqDiff, Nat.reduceLeDiff, Nat.reduceSub, Nat.reduceMul, Nat.reduceLT, Nat.reduceBEq, Nat.reduceAdd, Nat.reduceDiv, Nat.reduceMod]
  exact ⟨id, fun _ => ⟨id, fun _ => h.2.2⟩⟩
 ·exact h.elim
end Go.V
namespace Go.V
open Go.Proofs
set_option maxRecDepth 100000
set_option maxHeartbeats 8000000
set_option linter.unusedSimpArgs false
set_option linter.unnecessarySimpa false
set_option linter.unusedVariables false
attribute [local irreducible] rc
/-! ### Raw: the document's text of a command -/
theorem shape_ascii (w : ByteArray) : (∀ k ∈ (shapeR w).data.toList, k.toNat < 128) ∧ (shapeR w).data.toList.length ≤ 8 := by
 rcases shape_cases w with rfl | ⟨h1, _⟩ | ⟨l, h1, h2, h3, _, _⟩
 ·rw [shape_offer, bs_list]
  decide
 ·rw [h1]
  decide
 ·rw [h1, bs_list]
  refine ⟨fun k hk => ?_, (shape_len w 0 l (h2 0)).1⟩
  rcases h3 k hk with rfl | rfl | rfl | rfl | rfl <;> decide
theorem drop_elt {t : Ty} {xs : List t.den} {i : Nat} (h : i < xs.length) : xs.drop i = elt t xs i :: xs.drop (i + 1) := by
 rw [List.drop_eq_getElem_cons h]
 congr 1
 unfold elt
 simp [List.getD_eq_getElem?_getD, h]
theorem elt_mem {t : Ty} {xs : List t.den} {i : Nat} (h : i < xs.length) : elt t xs i ∈ xs := by
 have : elt t xs i ∈ xs.drop i := by rw [drop_elt h]; simp
 exact List.mem_of_mem_drop this
structure G44 where
 j : Nat
 s : ByteArray
 kk : Nat
 nn : Nat
def hp44 (p q : Bool) (c : Cmd) (j : Nat) : List SB := [.struct [.str c.word, .sl p 16 .str c.keys, .int .u64 c.client, .int .u64 c.serial, .sl q 8 (.int .i64) c.ints], .itr (shapeR c.word) j]
def fin44 (c : Cmd) : RS := (shapeR c.word).data.toList.foldl (rawStep c) ⟨c.word, c.keys, c.ints⟩
def A44 (p q : Bool) (c : Cmd) : LoopAnn := {
 G := G44
 I := fun g => ⟨[(1, .ptr 0 0), (3, .str g.s), (4, .int .i64 g.kk), (5, .int .i64 g.nn), (6, .str (shapeR c.word)), (14, .ptr 1 0)], hp44 p q c g.j⟩
 R := fun _ g => g.j ≤ (shapeR c.word).data.toList.length ∧ ((shapeR c.word).data.toList.drop g.j).foldl (rawStep c) ⟨g.s, c.keys.drop g.kk, c.ints.drop g.nn⟩ = fin44 c ∧ g.s.size ≤ 1000 + 2100 * g.j ∧ g.kk ≤ g.j ∧ g.nn ≤ c.ints.length + g.j
 μ := fun g => (shapeR c.word).data.toList.length - g.j }
def B44 (p q : Bool) (c : Cmd) : LoopAnn := {
 G := G44
 I := fun g => ⟨[(1, .ptr 0 0), (3, .str g.s), (4, .int .i64 g.kk), (5, .int .i64 g.nn), (6, .str (shapeR c.word)), (14, .ptr 1 0)], hp44 p q c g.j⟩
 R := fun g0 g => g.j = g0.j ∧ g.kk = g0.kk ∧ allI g.s (c.ints.drop g.nn) = allI g0.s (c.ints.drop g0.nn) ∧ g.s.size ≤ 1000 + 2100 * g.j ∧ (g.nn ≤ c.ints.length ∨ g.nn = g0.nn)
 μ := fun g => c.ints.length - g.nn }
theorem I44 (p q c) (g : G44) : (A44 p q c).I g = ⟨[(1, .ptr 0 0), (3, .str g.s), (4, .int .i64 g.kk), (5, .int .i64 g.nn), (6, .str (shapeR c.word)), (14, .ptr 1 0)], hp44 p q c g.j⟩ := rfl
theorem J44 (p q c) (g : G44) : (B44 p q c).I g = ⟨[(1, .ptr 0 0), (3, .str g.s), (4, .int .i64 g.kk), (5, .int .i64 g.nn), (6, .str (shapeR c.word)), (14, .ptr 1 0)], hp44 p q c g.j⟩ := rfl
def C44 : Contract := fun args hp K => match args, hp with
 | [.agg [.str w, .sl p 16 .str ks, .int .u64 cl, .int .u64 se, .sl q 8 (.int .i64) ns]], [] => ∃ c : Cmd, w = c.word ∧ ks = c.keys ∧ cl = c.client ∧ se = c.serial ∧ ns = c.ints ∧ cmdOk c ∧ ((rawText c).size ≤ 100000 → K (.str (rawText c)) [])
 | _, _ => False
section use
variable {K : SV → List SB → Prop}
theorem use100 {n : Int} (hs : (utoaB n.toNat).size ≤ maxLen) (k : K (.str (utoaB n.toNat)) []) : C100 [.int .u64 n] [] K := ⟨hs, k⟩
theorem use101 {s : ByteArray} (hs : s.size ≤ 100000) (k : K (.str (hexW s)) []) : C101 [.str s] [] K := ⟨hs, k⟩
theorem use102 {n : Int} (hs : (itoaB n).size ≤ maxLen) (k : K (.str (itoaB n)) []) : C102 [.int .i64 n] [] K := ⟨hs, k⟩
end use
attribute [local irreducible] C32 C100 C101 C102
theorem s44 : Sound Tryz.prog 44 C44 := by
 refine sound_of_okF ok44 (.cons s32 (callable_of_okF ok32) (.cons s100 (callable_of_okF ok100) (.cons s101 (callable_of_okF ok101) (.cons s102 (callable_of_okF ok102) .nil)))) ?_
 intro args hp K h
 unfold C44 at h
 split at h
 ·rename_i w p ks cl se q ns
  obtain ⟨c, rfl, rfl, rfl, rfl, rfl, hc, h⟩ := h
  refine ⟨by simp, [(1, A44 p q c), (2, B44 p q c)], ?_⟩
  have hmx := maxLen_val
  obtain ⟨hasc, hl8⟩ := shape_ascii c.word
  simp (maxSteps:=9^9) only [a44, r44, go_sem, eq_self, and_self, Int.natCast_pos, Int.le_refl, Nat.le_refl, Int.natCast_nonneg, Int.ofNat_lt, Int.ofNat_le, Int.reduceLT, Int.reduceLE, Int.reduceEq, Int.reduceNe, Int.reduceAdd, Int.reduceSub, Int.reduceMul, Int.reduceToNat, Int.reduceNeg, Nat.reduceEqDiff, Nat.reduceLeDiff, Nat.reduceSub, Nat.reduceMul, Nat.reduceLT, Nat.reduceBEq, Nat.reduceAdd, Nat.reduceDiv, Nat.reduceMod]
  refine use32 ?_
  simp (maxSteps:=9^9) only [go_sem, eq_self, and_self, Int.natCast_pos, Int.le_refl, Nat.le_refl, Int.natCast_nonneg, Int.ofNat_lt, Int.ofNat_le, Int.reduceLT, Int.reduceLE, Int.reduceEq, Int.reduceNe, Int.reduceAdd, Int.reduceSub, Int.reduceMul, Int.reduceToNat, Int.reduceNeg, Nat.reduceEqDiff, Nat.reduceLeDiff, Nat.reduceSub, Nat.reduceMul, Nat.reduceLT, Nat.reduceBEq, Nat.reduceAdd, Nat.reduceDiv, Nat.reduceMod]
  refine loop_intro (A := A44 p q c) (⟨0, c.word, 0, 0⟩ : G44) ?_ ⟨Nat.zero_le _, rfl, by have := hc.w; omega, Nat.le_refl _, Nat.zero_le _⟩ ?_
  ·simp (maxSteps:=9^9) only [I44, hp44, go_sem, eq_self, and_self, Int.natCast_pos, Int.le_refl, Nat.le_refl, Int.natCast_nonneg, Int.ofNat_lt, Int.ofNat_le, Int.reduceLT, Int.reduceLE, Int.reduceEq, Int.reduceNe, Int.reduceAdd, Int.reduceSub, Int.reduceMul, Int.reduceToNat, Int.reduceNeg, Nat.reduceEqDiff, Nat.reduceLeDiff, Nat.reduceSub, Nat.reduceMul, Nat.reduceLT, Nat.reduceBEq, Nat.reduceAdd, Nat.reduceDiv, Nat.reduceMod]
   rfl
  rintro ⟨j, s, kk, nn⟩ hR
  obtain ⟨g1, g2, g3, g4, g5⟩ : j ≤ (shapeR c.word).data.toList.length ∧ ((shapeR c.word).data.toList.drop j).foldl (rawStep c) ⟨s, c.keys.drop kk, c.ints.drop nn⟩ = fin44 c ∧ s.size ≤ 1000 + 2100 * j ∧ kk ≤ j ∧ nn ≤ c.ints.length + j := hR
  have hLs : (shapeR c.word).data.toList.length = (shapeR c.word).size := size_list _
  have hkl := hc.kl
  have hnl := hc.nl
  simp (maxSteps:=9^9) only [I44, hp44, go_sem, eq_self, and_self, Int.natCast_pos, Int.le_refl, Nat.le_refl, Int.natCast_nonneg, Int.ofNat_lt, Int.ofNat_le, Int.reduceLT, Int.reduceLE, Int.reduceEq, Int.reduceNe, Int.reduceAdd, Int.reduceSub, Int.reduceMul, Int.reduceToNat, Int.reduceNeg, Nat.reduceEqDiff, Nat.reduceLeDiff, Nat.reduceSub, Nat.reduceMul, Nat.reduceLT, Nat.reduceBEq, Nat.reduceAdd, Nat.reduceDiv, Nat.reduceMod]
  refine ⟨fun hj => ?_, fun hj => ?_⟩
  ·have hjl : j < (shapeR c.word).data.toList.length := by omega
   have hmem : (shapeR c.word).data.toList.getD j 0 ∈ (shapeR c.word).data.toList := by
    rw [List.getD_eq_getElem?_getD, List.getElem?_eq_getElem hjl]
    exact List.getElem_mem hjl
   have hdrop : (shapeR c.word).data.toList.drop j = (shapeR c.word).data.toList.getD j 0 :: (shapeR c.word).data.toList.drop (j + 1) := by
    rw [List.drop_eq_getElem_cons hjl, List.getD_eq_getElem?_getD, List.getElem?_eq_getElem hjl]
    rfl
   refine ⟨hasc _ hmem, nd_intro hj ?_⟩
   rw [hdrop, List.foldl_cons] at g2
   generalize (shapeR c.word).data.toList.getD j 0 = k at g2
   have keq : ∀ n : UInt8, (k.toNat : Int) = n.toNat → k = n := fun n e => UInt8.toNat_inj.1 (by omega)
   have back : ∀ (s' : ByteArray) (kk' nn' : Nat), rawStep c ⟨s, c.keys.drop kk, c.ints.drop nn⟩ k = ⟨s', c.keys.drop kk', c.ints.drop nn'⟩ → s'.size ≤ 1000 + 2100 * (j + 1) → kk' ≤ j + 1 → nn' ≤ c.ints.length + (j + 1) →
     (A44 p q c).R (⟨0, c.word, 0, 0⟩ : G44) (⟨j + 1, s', kk', nn'⟩ : G44) := fun s' kk' nn' e1 e2 e3 e4 => ⟨hjl, by rw [← e1]; exact g2, e2, e3, e4⟩
   have hmu : ∀ (s' : ByteArray) (kk' nn' : Nat), (A44 p q c).μ (⟨j + 1, s', kk', nn'⟩ : G44) < (A44 p q c).μ (⟨j, s, kk, nn⟩ : G44) := fun s' kk' nn' => by
    show (shapeR c.word).data.toList.length - (j + 1) < (shapeR c.word).data.toList.length - j
    omega
   have hb : (#[32] : Array UInt8).size = 1 := rfl
   rintro m rfl c99 hc99
   refine swd9 hc99 (fun e => ?_) (fun n99 => ?_)
   ·have k9 := keq 99 e
    subst k9
    have hz := utoaB_size hc.cl
    refine ⟨by rw [hb]; omega, fun u hu => use100 (by rw [Int.toNat_natCast]; omega) ?_⟩
    have hus : u.size = s.size + 1 := by rw [hu, size_app]; rfl
    simp (maxSteps:=9^9) only [go_sem, eq_self, and_self, Int.natCast_pos, Int.le_refl, Nat.le_refl, Int.natCast_nonneg, Int.ofNat_lt, Int.ofNat_le, Int.reduceLT, Int.reduceLE, Int.reduceEq, Int.reduceNe, Int.reduceAdd, Int.reduceSub, Int.reduceMul, Int.reduceToNat, Int.reduceNeg, Nat.reduceEqDiff, Nat.reduceLeDiff, Nat.reduceSub, Nat.reduceMul, Nat.reduceLT, Nat.reduceBEq, Nat.reduceAdd, Nat.reduceDiv, Nat.reduceMod]
    refine ⟨by omega, fun u2 hu2 => ?_⟩
    have hu3 : u2 = addW s (utoaB c.client) := by rw [hu2, hu]; rfl
    exact lpE_intro (A := A44 p q c) (⟨j + 1, u2, kk, nn⟩ : G44) rfl (back _ _ _ (by rw [hu3]; simp [rawStep]) (by rw [hu3, addW_size]; omega) (by omega) (by omega)) (hmu _ _ _)
   intro c115 hc115
   refine swd9 hc115 (fun e => ?_) (fun n115 => ?_)
   ·have k9 := keq 115 e
    subst k9
    have hz := utoaB_size hc.se
    refine ⟨by rw [hb]; omega, fun u hu => use100 (by rw [Int.toNat_natCast]; omega) ?_⟩
    have hus : u.size = s.size + 1 := by rw [hu, size_app]; rfl
    simp (maxSteps:=9^9) only [go_sem, eq_self, and_self, Int.natCast_pos, Int.le_refl, Nat.le_refl, Int.natCast_nonneg, Int.ofNat_lt, Int.ofNat_le, Int.reduceLT, Int.reduceLE, Int.reduceEq, Int.reduceNe, Int.reduceAdd, Int.reduceSub, Int.reduceMul, Int.reduceToNat, Int.reduceNeg, Nat.reduceEqDiff, Nat.reduceLeDiff, Nat.reduceSub, Nat.reduceMul, Nat.reduceLT, Nat.reduceBEq, Nat.reduceAdd, Nat.reduceDiv, Nat.reduceMod]
    refine ⟨by omega, fun u2 hu2 => ?_⟩
    have hu3 : u2 = addW s (utoaB c.serial) := by rw [hu2, hu]; rfl
    exact lpE_intro (A := A44 p q c) (⟨j + 1, u2, kk, nn⟩ : G44) rfl (back _ _ _ (by rw [hu3]; simp [rawStep]) (by rw [hu3, addW_size]; omega) (by omega) (by omega)) (hmu _ _ _)
   intro c107 hc107
   refine swd9 hc107 (fun e => swd9 hc107 (fun _ => ?_) (fun e' => absurd e e')) (fun n107 => ?_)
   ·have k9 := keq 107 e
    subst k9
    rintro _ _ m4 rfl c4 hc4
    refine swd9 hc4 (fun h4 => ?_) (fun h4 => ?_)
    ·have h4' : kk < c.keys.length := by omega
     have hke := drop_elt (t := .str) h4'
     have hks : ByteArray.size (elt .str c.keys kk) ≤ 1000 := hc.k _ (elt_mem (t := .str) h4')
     have hz := hexW_size hks
     refine ⟨by rw [hb]; omega, fun u hu => nd_intro h4' (use101 (by omega) ?_)⟩
     have hus : u.size = s.size + 1 := by rw [hu, size_app]; rfl
     simp (maxSteps:=9^9) only [go_sem, eq_self, and_self, Int.natCast_pos, Int.le_refl, Nat.le_refl, Int.natCast_nonneg, Int.ofNat_lt, Int.ofNat_le, Int.reduceLT, Int.reduceLE, Int.reduceEq, Int.reduceNe, Int.reduceAdd, Int.reduceSub, Int.reduceMul, Int.reduceToNat, Int.reduceNeg, Nat.reduceEqDiff, Nat.reduceLeDiff, Nat.reduceSub, Nat.reduceMul, Nat.reduceLT, Nat.reduceBEq, Nat.reduceAdd, Nat.reduceDiv, Nat.reduceMod]
     refine ⟨by omega, fun u2 hu2 _ _ m5 hm5 => ?_⟩
     have hu3 : u2 = addW s (hexW (elt .str c.keys kk)) := by rw [hu2, hu]; rfl
     rw [w64 (by omega)] at hm5
     rw [hm5, show (kk : Int) + 1 = ((kk + 1 : Nat) : Int) by omega]
     exact lpE_intro (A := A44 p q c) (⟨j + 1, u2, kk + 1, nn⟩ : G44) rfl (back _ _ _ (by rw [hke, hu3]; simp [rawStep]) (by rw [hu3, addW_size]; omega) (by omega) (by omega)) (hmu _ _ _)
    ·intro _ _ m5 hm5
     rw [w64 (by omega)] at hm5
     rw [hm5, show (kk : Int) + 1 = ((kk + 1 : Nat) : Int) by omega]
     exact lpE_intro (A := A44 p q c) (⟨j + 1, s, kk + 1, nn⟩ : G44) rfl (back _ _ _ (by rw [show c.keys.drop kk = [] from List.drop_eq_nil_of_le (by omega), show c.keys.drop (kk + 1) = [] from List.drop_eq_nil_of_le (by omega)]; simp [rawStep]) (by omega) (by omega) (by omega)) (hmu _ _ _)
   intro c110 hc110
   refine swd9 hc110 (fun e => ?_) (fun n110 => ?_)
   ·have k9 := keq 110 e
    subst k9
    rintro _ _ m4 rfl c4 hc4
    refine swd9 hc4 (fun h4 => ?_) (fun h4 => ?_)
    ·have h4' : kk < c.keys.length := by omega
     have hke := drop_elt (t := .str) h4'
     have hks : ByteArray.size (elt .str c.keys kk) ≤ 1000 := hc.k _ (elt_mem (t := .str) h4')
     have hz := hexW_size hks
     refine ⟨by rw [hb]; omega, fun u hu => nd_intro h4' (use101 (by omega) ?_)⟩
     have hus : u.size = s.size + 1 := by rw [hu, size_app]; rfl
     simp (maxSteps:=9^9) only [go_sem, eq_self, and_self, Int.natCast_pos, Int.le_refl, Nat.le_refl, Int.natCast_nonneg, Int.ofNat_lt, Int.ofNat_le, Int.reduceLT, Int.reduceLE, Int.reduceEq, Int.reduceNe, Int.reduceAdd, Int.reduceSub, Int.reduceMul, Int.reduceToNat, Int.reduceNeg, Nat.reduceEqDiff, Nat.reduceLeDiff, Nat.reduceSub, Nat.reduceMul, Nat.reduceLT, Nat.reduceBEq, Nat.reduceAdd, Nat.reduceDiv, Nat.reduceMod]
     refine ⟨by omega, fun u2 hu2 _ _ m5 hm5 => ?_⟩
     have hu3 : u2 = addW s (hexW (elt .str c.keys kk)) := by rw [hu2, hu]; rfl
     rw [w64 (by omega)] at hm5
     rw [hm5, show (kk : Int) + 1 = ((kk + 1 : Nat) : Int) by omega]
     exact lpE_intro (A := A44 p q c) (⟨j + 1, u2, kk + 1, nn⟩ : G44) rfl (back _ _ _ (by rw [hke, hu3]; simp [rawStep]) (by rw [hu3, addW_size]; omega) (by omega) (by omega)) (hmu _ _ _)
    ·intro _ _ m5 hm5
     rw [w64 (by omega)] at hm5
     rw [hm5, show (kk : Int) + 1 = ((kk + 1 : Nat) : Int) by omega]
     exact lpE_intro (A := A44 p q c) (⟨j + 1, s, kk + 1, nn⟩ : G44) rfl (back _ _ _ (by rw [show c.keys.drop kk = [] from List.drop_eq_nil_of_le (by omega), show c.keys.drop (kk + 1) = [] from List.drop_eq_nil_of_le (by omega)]; simp [rawStep]) (by omega) (by omega) (by omega)) (hmu _ _ _)
   intro c105 hc105
   refine swd9 hc105 (fun e => ?_) (fun n105 => ?_)
   ·have k9 := keq 105 e
    subst k9
    rintro _ _ m4 rfl c4 hc4
    refine swd9 hc4 (fun h4 => ?_) (fun h4 => ?_)
    ·have h4' : nn < c.ints.length := by omega
     have hke := drop_elt (t := .int .i64) h4'
     have hz := itoaB_size (hc.n _ (elt_mem (t := .int .i64) h4'))
     refine ⟨by rw [hb]; omega, fun u hu => nd_intro h4' (use102 (by omega) ?_)⟩
     have hus : u.size = s.size + 1 := by rw [hu, size_app]; rfl
     simp (maxSteps:=9^9) only [go_sem, eq_self, and_self, Int.natCast_pos, Int.le_refl, Nat.le_refl, Int.natCast_nonneg, Int.ofNat_lt, Int.ofNat_le, Int.reduceLT, Int.reduceLE, Int.reduceEq, Int.reduceNe, Int.reduceAdd, Int.reduceSub, Int.reduceMul, Int.reduceToNat, Int.reduceNeg, Nat.reduceEqDiff, Nat.reduceLeDiff, Nat.reduceSub, Nat.reduceMul, Nat.reduceLT, Nat.reduceBEq, Nat.reduceAdd, Nat.reduceDiv, Nat.reduceMod]
     refine ⟨by omega, fun u2 hu2 _ _ m5 hm5 => ?_⟩
     have hu3 : u2 = addW s (itoaB (elt (.int .i64) c.ints nn)) := by rw [hu2, hu]; rfl
     rw [w64 (by omega)] at hm5
     rw [hm5, show (nn : Int) + 1 = ((nn + 1 : Nat) : Int) by omega]
     exact lpE_intro (A := A44 p q c) (⟨j + 1, u2, kk, nn + 1⟩ : G44) rfl (back _ _ _ (by rw [hke, hu3]; simp [rawStep]) (by rw [hu3, addW_size]; omega) (by omega) (by omega)) (hmu _ _ _)
    ·intro _ _ m5 hm5
     rw [w64 (by omega)] at hm5
     rw [hm5, show (nn : Int) + 1 = ((nn + 1 : Nat) : Int) by omega]
     exact lpE_intro (A := A44 p q c) (⟨j + 1, s, kk, nn + 1⟩ : G44) rfl (back _ _ _ (by rw [show c.ints.drop nn = [] from List.drop_eq_nil_of_le (by omega), show c.ints.drop (nn + 1) = [] from List.drop_eq_nil_of_le (by omega)]; simp [rawStep]) (by omega) (by omega) (by omega)) (hmu _ _ _)
   intro c97 hc97
   refine swd9 hc97 (fun e => ?_) (fun n97 => ?_)
   ·have k9 := keq 97 e
    subst k9
    refine loop_intro (A := B44 p q c) (⟨j + 1, s, kk, nn⟩ : G44) ?_ ⟨rfl, rfl, rfl, by show s.size ≤ 1000 + 2100 * (j + 1); omega, .inr rfl⟩ ?_
    ·simp (maxSteps:=9^9) only [J44, hp44, go_sem, eq_self, and_self, Int.natCast_pos, Int.le_refl, Nat.le_refl, Int.natCast_nonneg, Int.ofNat_lt, Int.ofNat_le, Int.reduceLT, Int.reduceLE, Int.reduceEq, Int.reduceNe, Int.reduceAdd, Int.reduceSub, Int.reduceMul, Int.reduceToNat, Int.reduceNeg, Nat.reduceEqDiff, Nat.reduceLeDiff, Nat.reduceSub, Nat.reduceMul, Nat.reduceLT, Nat.reduceBEq, Nat.reduceAdd, Nat.reduceDiv, Nat.reduceMod]
    rintro ⟨j2, s2, kk2, nn2⟩ hR2
    obtain ⟨f1, f2, f3, f4, f5⟩ : j2 = j + 1 ∧ kk2 = kk ∧ allI s2 (c.ints.drop nn2) = allI s (c.ints.drop nn) ∧ s2.size ≤ 1000 + 2100 * j2 ∧ (nn2 ≤ c.ints.length ∨ nn2 = nn) := hR2
    subst f1
    subst f2
    have back2 : allI s2 (c.ints.drop nn2) = (s2, c.ints.drop nn2) → (A44 p q c).R (⟨0, c.word, 0, 0⟩ : G44) (⟨j + 1, s2, kk2, nn2⟩ : G44) := fun e1 => back _ _ _ (by rw [raw_a]; show RS.mk (allI s (c.ints.drop nn)).1 _ (allI s (c.ints.drop nn)).2 = _; rw [← f3, e1]) (by omega) (by omega) (by omega)
    simp (maxSteps:=9^9) only [J44, hp44, go_sem, eq_self, and_self, Int.natCast_pos, Int.le_refl, Nat.le_refl, Int.natCast_nonneg, Int.ofNat_lt, Int.ofNat_le, Int.reduceLT, Int.reduceLE, Int.reduceEq, Int.reduceNe, Int.reduceAdd, Int.reduceSub, Int.reduceMul, Int.reduceToNat, Int.reduceNeg, Nat.reduceEqDiff, Nat.reduceLeDiff, Nat.reduceSub, Nat.reduceMul, Nat.reduceLT, Nat.reduceBEq, Nat.reduceAdd, Nat.reduceDiv, Nat.reduceMod]
    rintro _ _ m6 rfl c6 hc6
    refine swd9 hc6 (fun h6 => ?_) (fun h6 => ?_)
    ·have h6' : nn2 < c.ints.length := by omega
     have hke := drop_elt (t := .int .i64) h6'
     have hke' : (c.ints : List Int).drop nn2 = elt (.int .i64) c.ints nn2 :: c.ints.drop (nn2 + 1) := hke
     have hz := itoaB_size (hc.n _ (elt_mem (t := .int .i64) h6'))
     rintro _ m7 rfl c7 hc7
     refine swd9 hc7 (fun h7 => ?_) (fun h7 => ?_)
     ·refine ⟨by rw [hb]; omega, fun u hu => nd_intro h6' (use102 (by omega) ?_)⟩
      have hus : u.size = s2.size + 1 := by rw [hu, size_app]; rfl
      simp (maxSteps:=9^9) only [go_sem, eq_self, and_self, Int.natCast_pos, Int.le_refl, Nat.le_refl, Int.natCast_nonneg, Int.ofNat_lt, Int.ofNat_le, Int.reduceLT, Int.reduceLE, Int.reduceEq, Int.reduceNe, Int.reduceAdd, Int.reduceSub, Int.reduceMul, Int.reduceToNat, Int.reduceNeg, Nat.reduceEqDiff, Nat.reduceLeDiff, Nat.reduceSub, Nat.reduceMul, Nat.reduceLT, Nat.reduceBEq, Nat.reduceAdd, Nat.reduceDiv, Nat.reduceMod]
      refine ⟨by omega, fun u2 hu2 _ _ m5 hm5 => ?_⟩
      have hu3 : u2 = addW s2 (itoaB (elt (.int .i64) c.ints nn2)) := by rw [hu2, hu]; rfl
      rw [w64 (by omega)] at hm5
      rw [hm5, show (nn2 : Int) + 1 = ((nn2 + 1 : Nat) : Int) by omega]
      refine lpE_intro (A := B44 p q c) (⟨j + 1, u2, kk2, nn2 + 1⟩ : G44) rfl ⟨rfl, rfl, ?_, ?_, .inl h6'⟩ ?_
      ·show allI u2 (c.ints.drop (nn2 + 1)) = allI s (c.ints.drop nn)
       rw [← f3, hke', hu3]
       conv => rhs; unfold allI
       rw [if_pos (by omega)]
      ·show u2.size ≤ 1000 + 2100 * (j + 1)
       rw [hu3, addW_size]
       omega
      ·show c.ints.length - (nn2 + 1) < c.ints.length - nn2
       omega
     ·refine lpE_intro (A := A44 p q c) (⟨j + 1, s2, kk2, nn2⟩ : G44) rfl (back2 ?_) (hmu _ _ _)
      rw [hke']
      conv => lhs; unfold allI
      rw [if_neg (by omega)]
    ·refine lpE_intro (A := A44 p q c) (⟨j + 1, s2, kk2, nn2⟩ : G44) rfl (back2 ?_) (hmu _ _ _)
     rw [show c.ints.drop nn2 = [] from List.drop_eq_nil_of_le (by omega)]
     rfl
   ·exact lpE_intro (A := A44 p q c) (⟨j + 1, s, kk, nn⟩ : G44) rfl (back _ _ _ (by
     have q1 : ¬ k = 99 := fun e => n99 (by rw [e]; rfl)
     have q2 : ¬ k = 115 := fun e => n115 (by rw [e]; rfl)
     have q3 : ¬ k = 107 := fun e => n107 (by rw [e]; rfl)
     have q4 : ¬ k = 110 := fun e => n110 (by rw [e]; rfl)
     have q5 : ¬ k = 105 := fun e => n105 (by rw [e]; rfl)
     have q6 : ¬ k = 97 := fun e => n97 (by rw [e]; rfl)
     simp [rawStep, q1, q2, q3, q4, q5, q6]) (by omega) (by omega) (by omega)) (hmu _ _ _)
  ·have hn : j = (shapeR c.word).data.toList.length := by omega
   have e1 : (⟨s, c.keys.drop kk, c.ints.drop nn⟩ : RS) = fin44 c := by
    rw [hn, List.drop_length] at g2
    exact g2
   have e2 : rawText c = s := by
    show (fin44 c).s = s
    rw [← e1]
   rw [e2] at h
   exact h (by omega)
 ·exact h.elim
end Go.V
namespace Go.V
open Go.Proofs
set_option maxRecDepth 100000
set_option maxHeartbeats 8000000
set_option linter.unusedSimpArgs false
set_option linter.unnecessarySimpa false
set_option linter.unusedVariables false
attribute [local irreducible] rc
/-! ### both Prints -/
theorem print_iff (c : Cmd) (t : ByteArray) : printC c = some t ↔ t = prText c ∧ parseC (prText c) = .ok c := by
 constructor
 ·intro h
  have h1 := printC_some h
  have h2 : t = rawText c := by
   unfold printC at h
   split at h
   ·split at h
    ·exact (Option.some.inj h).symm
    ·cases h
   ·cases h
  subst h2
  have h3 := (print_same c).2.1 h1
  rw [h3]
  exact ⟨rfl, h1⟩
 ·rintro ⟨rfl, h⟩
  have h1 := (print_same c).1 h
  unfold printC
  rw [h1, h]
  simp
theorem print_none {c : Cmd} (h : ¬ parseC (prText c) = .ok c) : printC c = none := by
 cases e : printC c with
 | none => rfl
 | some t => exact absurd ((print_iff c t).1 e).2 h
theorem kinds_all {w : ByteArray} {m : Nat} (h : kindsF w m ≠ none) (n : Nat) : (kindsF w n).isSome = true := by
 rcases shape_cases w with rfl | ⟨_, h2⟩ | ⟨l, _, h2, _, _, _⟩
 ·rw [kinds_offer]; rfl
 ·exact absurd (h2 m) h
 ·rw [h2]; rfl
theorem cmd_eq (d c : Cmd) : decide (d.word = c.word ∧ (d.client : Int) = c.client ∧ (d.serial : Int) = c.serial ∧ (d.keys : List ByteArray) = c.keys ∧ (d.ints : List Int) = c.ints) = decide (d = c) := by
 rw [decide_eq_decide]
 constructor
 ·rintro ⟨h1, h2, h3, h4, h5⟩
  cases d
  cases c
  simp only at h1 h2 h3 h4 h5
  subst h1 h4 h5
  have h2' := Int.ofNat.inj h2
  have h3' := Int.ofNat.inj h3
  subst h2' h3'
  rfl
 ·rintro rfl
  exact ⟨rfl, rfl, rfl, rfl, rfl⟩
def CPrint : Contract := fun args hp K => match args, hp with
 | [.agg [.str w, .sl p 16 .str ks, .int .u64 cl, .int .u64 se, .sl q 8 (.int .i64) ns]], [] => ∃ c : Cmd, w = c.word ∧ ks = c.keys ∧ cl = c.client ∧ se = c.serial ∧ ns = c.ints ∧ cmdOk c ∧ (printC c = none → K (.tup [.str ByteArray.empty, .int .i64 1]) []) ∧ (∀ t, printC c = some t → K (.tup [.str t, .int .i64 0]) [])
 | _, _ => False
section use
variable {K : SV → List SB → Prop}
theorem use44 {c : Cmd} {p q : Bool} (hc : cmdOk c) (h : (rawText c).size ≤ 100000 → K (.str (rawText c)) []) : C44 [.agg [.str c.word, .sl p 16 .str c.keys, .int .u64 c.client, .int .u64 c.serial, .sl q 8 (.int .i64) c.ints]] [] K := ⟨c, rfl, rfl, rfl, rfl, rfl, hc, h⟩
theorem usePp {s : ByteArray} (hs : s.size ≤ 1000000) (h1 : ∀ e, parseC s = .error e → K (.tup [zeroC, .int .i64 e]) []) (h2 : ∀ c, parseC s = .ok c → K (.tup [cmdV c, .int .i64 0]) []) : CParse [.str s] [] K := ⟨hs, h1, h2⟩
theorem use12d {d c : Cmd} {p q : Bool} (h : K (.bool (decide (d = c))) []) : C12 [.agg [.str d.word, .sl true 16 .str d.keys, .int .u64 d.client, .int .u64 d.serial, .sl true 8 (.int .i64) d.ints], .agg [.str c.word, .sl p 16 .str c.keys, .int .u64 c.client, .int .u64 c.serial, .sl q 8 (.int .i64) c.ints]] [] K := .inr ⟨_, _, rfl, .inr ⟨_, _, rfl, .inr ⟨_, _, rfl, .inr ⟨_, _, rfl, by
 have e := cmd_eq d c
 show K (.bool (decide (d.word = c.word ∧ (d.client : Int) = c.client ∧ (d.serial : Int) = c.serial ∧ (d.keys : List ByteArray) = c.keys ∧ (d.ints : List Int) = c.ints))) []
 rw [e]
 exact h⟩⟩⟩⟩
end use
theorem errPp {s : ByteArray} {e : Int} (h : parseC s = .error e) : e = 4 ∨ e = 2 := by
 unfold parseC at h
 split at h
 ·cases h; exact .inl rfl
 ·split at h
  ·cases h; exact .inr rfl
  ·split at h
   ·split at h
    ·cases h
    ·cases h; exact .inr rfl
   ·cases h; exact .inr rfl
attribute [local irreducible] C44 CParse C12
theorem s18 : Sound Tryz.prog 18 CPrint := by
 refine sound_of_okF ok18 (.cons s44 (callable_of_okF ok44) (.cons s11 (callable_of_okF ok11) (.cons s12 (callable_of_okF ok12) .nil))) ?_
 intro args hp K h
 unfold CPrint at h
 split at h
 ·rename_i w p ks cl se q ns
  obtain ⟨c, rfl, rfl, rfl, rfl, rfl, hc, h1, h2⟩ := h
  refine ⟨by simp, [], ?_⟩
  simp (maxSteps:=9^9) only [a18, r18, go_sem, eq_self, and_self, Int.natCast_pos, Int.le_refl, Nat.le_refl, Int.natCast_nonneg, Int.ofNat_lt, Int.ofNat_le, Int.reduceLT, Int.reduceLE, Int.reduceEq, Int.reduceNe, Int.reduceAdd, Int.reduceSub, Int.reduceMul, Int.reduceToNat, Int.reduceNeg, Nat.reduceEqDiff, Nat.reduceLeDiff, Nat.reduceSub, Nat.reduceMul, Nat.reduceLT, Nat.reduceBEq, Nat.reduceAdd, Nat.reduceDiv, Nat.reduceMod]
  refine use44 hc (fun hsz => ?_)
  simp (maxSteps:=9^9) only [go_sem, eq_self, and_self, Int.natCast_pos, Int.le_refl, Nat.le_refl, Int.natCast_nonneg, Int.ofNat_lt, Int.ofNat_le, Int.reduceLT, Int.reduceLE, Int.reduceEq, Int.reduceNe, Int.reduceAdd, Int.reduceSub, Int.reduceMul, Int.reduceToNat, Int.reduceNeg, Nat.reduceEqDiff, Nat.reduceLeDiff, Nat.reduceSub, Nat.reduceMul, Nat.reduceLT, Nat.reduceBEq, Nat.reduceAdd, Nat.reduceDiv, Nat.reduceMod]
  refine usePp (by omega) (fun e he => ?_) (fun d hd => ?_)
  ·have hn : printC c = none := by unfold printC; rw [he]
   rcases errPp he with rfl | rfl
   ·simp (maxSteps:=9^9) only [zeroC, go_sem, eq_self, and_self, Int.natCast_pos, Int.le_refl, Nat.le_refl, Int.natCast_nonneg, Int.ofNat_lt, Int.ofNat_le, Int.reduceLT, Int.reduceLE, Int.reduceEq, Int.reduceNe, Int.reduceAdd, Int.reduceSub, Int.reduceMul, Int.reduceToNat, Int.reduceNeg, Nat.reduceEqDiff, Nat.reduceLeDiff, Nat.reduceSub, Nat.reduceMul, Nat.reduceLT, Nat.reduceBEq, Nat.reduceAdd, Nat.reduceDiv, Nat.reduceMod]
    exact h1 hn
   ·simp (maxSteps:=9^9) only [zeroC, go_sem, eq_self, and_self, Int.natCast_pos, Int.le_refl, Nat.le_refl, Int.natCast_nonneg, Int.ofNat_lt, Int.ofNat_le, Int.reduceLT, Int.reduceLE, Int.reduceEq, Int.reduceNe, Int.reduceAdd, Int.reduceSub, Int.reduceMul, Int.reduceToNat, Int.reduceNeg, Nat.reduceEqDiff, Nat.reduceLeDiff, Nat.reduceSub, Nat.reduceMul, Nat.reduceLT, Nat.reduceBEq, Nat.reduceAdd, Nat.reduceDiv, Nat.reduceMod]
    exact h1 hn
  ·simp (maxSteps:=9^9) only [cmdV, go_sem, eq_self, and_self, Int.natCast_pos, Int.le_refl, Nat.le_refl, Int.natCast_nonneg, Int.ofNat_lt, Int.ofNat_le, Int.reduceLT, Int.reduceLE, Int.reduceEq, Int.reduceNe, Int.reduceAdd, Int.reduceSub, Int.reduceMul, Int.reduceToNat, Int.reduceNeg, Nat.reduceEqDiff, Nat.reduceLeDiff, Nat.reduceSub, Nat.reduceMul, Nat.reduceLT, Nat.reduceBEq, Nat.reduceAdd, Nat.reduceDiv, Nat.reduceMod]
   refine use12d ?_
   simp (maxSteps:=9^9) only [go_sem, eq_self, and_self, Int.natCast_pos, Int.le_refl, Nat.le_refl, Int.natCast_nonneg, Int.ofNat_lt, Int.ofNat_le, Int.reduceLT, Int.reduceLE, Int.reduceEq, Int.reduceNe, Int.reduceAdd, Int.reduceSub, Int.reduceMul, Int.reduceToNat, Int.reduceNeg, Nat.reduceEqDiff, Nat.reduceLeDiff, Nat.reduceSub, Nat.reduceMul, Nat.reduceLT, Nat.reduceBEq, Nat.reduceAdd, Nat.reduceDiv, Nat.reduceMod]
   by_cases e : d = c
   ·rw [decide_eq_true e]
    simp (maxSteps:=9^9) only [go_sem, eq_self, and_self, Int.natCast_pos, Int.le_refl, Nat.le_refl, Int.natCast_nonneg, Int.ofNat_lt, Int.ofNat_le, Int.reduceLT, Int.reduceLE, Int.reduceEq, Int.reduceNe, Int.reduceAdd, Int.reduceSub, Int.reduceMul, Int.reduceToNat, Int.reduceNeg, Nat.reduceEqDiff, Nat.reduceLeDiff, Nat.reduceSub, Nat.reduceMul, Nat.reduceLT, Nat.reduceBEq, Nat.reduceAdd, Nat.reduceDiv, Nat.reduceMod]
    refine h2 _ ?_
    unfold printC
    rw [hd]
    simp [e]
   ·rw [decide_eq_false e]
    simp (maxSteps:=9^9) only [go_sem, eq_self, and_self, Int.natCast_pos, Int.le_refl, Nat.le_refl, Int.natCast_nonneg, Int.ofNat_lt, Int.ofNat_le, Int.reduceLT, Int.reduceLE, Int.reduceEq, Int.reduceNe, Int.reduceAdd, Int.reduceSub, Int.reduceMul, Int.reduceToNat, Int.reduceNeg, Nat.reduceEqDiff, Nat.reduceLeDiff, Nat.reduceSub, Nat.reduceMul, Nat.reduceLT, Nat.reduceBEq, Nat.reduceAdd, Nat.reduceDiv, Nat.reduceMod]
    refine h1 ?_
    unfold printC
    rw [hd]
    simp [e]
 ·exact h.elim
end Go.V
