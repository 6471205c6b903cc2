/- A line, as the package reads it and as the document does; a text's lines. -/
import Derived.Test.YtaeoiobjddknbaaDoorMB5
import Derived.Test.YtaeoiobjddknbaaDoorMA71
namespace Go.V
open Go.Proofs
set_option maxRecDepth 100000
set_option maxHeartbeats 8000000
set_option linter.unusedSimpArgs false
set_option linter.unnecessarySimpa false
set_option linter.unusedVariables false
theorem bsOf_data (s : ByteArray) : bsOf s.data.toList = s := rfl
theorem bsOf_inj {a b : List UInt8} : bsOf a = bsOf b ↔ a = b := by
 constructor
 ·intro h
  have := congrArg (fun s : ByteArray => s.data.toList) h
  simpa [bsOf] using this
 ·rintro rfl; rfl
theorem bs_eq {a : List UInt8} {s : ByteArray} : bsOf a = s ↔ a = s.data.toList := by
 rw [← bsOf_data s, bsOf_inj]
 rfl
theorem cut1_L (s : ByteArray) (c : UInt8) : (cut1 s ⟨#[c]⟩).data.toList = s.data.toList.takeWhile (· != c) := by
 have : (⟨#[c]⟩ : ByteArray).data.toList = [c] := rfl
 unfold cut1
 rw [this, cut_one]
 simp [bsOf]
theorem cut2_L (s : ByteArray) (c : UInt8) : (cut2 s ⟨#[c]⟩).data.toList = (s.data.toList.dropWhile (· != c)).drop 1 := by
 have : (⟨#[c]⟩ : ByteArray).data.toList = [c] := rfl
 unfold cut2
 rw [this, cut_one]
 simp [bsOf]
theorem cut3_L (s : ByteArray) (c : UInt8) : cut3 s ⟨#[c]⟩ = s.data.toList.contains c := by
 have : (⟨#[c]⟩ : ByteArray).data.toList = [c] := rfl
 unfold cut3
 rw [this, cut_one]
theorem size_L (s : ByteArray) : s.size = s.data.toList.length := Array.length_toList.symm
theorem cut_size (s : ByteArray) (c : UInt8) : (cut1 s ⟨#[c]⟩).size ≤ s.size ∧ (cut2 s ⟨#[c]⟩).size ≤ s.size := by
 have : (⟨#[c]⟩ : ByteArray).data.toList = [c] := rfl
 unfold cut1 cut2
 rw [bsOf_size, bsOf_size, this, size_L s]
 exact cut_len
theorem use24 {s : ByteArray} {c : UInt8} {K : SV → List SB → Prop} (hs : s.size ≤ 100000) (h : K (.tup [.str (cut1 s ⟨#[c]⟩), .str (cut2 s ⟨#[c]⟩), .bool (cut3 s ⟨#[c]⟩)]) []) : C24 [.str s, .str ⟨#[c]⟩] [] K := by
 have hmx := maxLen_val
 have := cut_size s c
 exact ⟨⟨by omega, by omega, by omega⟩, h⟩
theorem use32 {i : Nat} {K : SV → List SB → Prop} (h1 : ¬ i < 24 → K (.tup [.str ByteArray.empty, .int .i64 0, .bool false]) []) (h2 : i < 24 → K (.tup [.str (wordB i), .int .i64 (opK i), .bool true]) []) : C32 [.int .i64 i] [] K :=
 ⟨fun h => h1 (by omega), fun h => h2 (by omega)⟩
theorem use36 {i : Nat} {K : SV → List SB → Prop} (hi : i < 24) (h : K (.tup [.str (wordB i), .int .i64 (opK i)]) []) : C36 [.int .i64 i] [] K :=
 ⟨fun h' => absurd h' (by omega), fun _ => h⟩
theorem use64 {s : ByteArray} {K : SV → List SB → Prop} (hs : s.size ≤ 100000) (h : ∀ n b, inR .i64 n → (b = true → numI s.data.toList = some n) → (b = false → numI s.data.toList = none) → K (.tup [.int .i64 n, .bool b]) []) : C64 [.str s] [] K := by
 refine ⟨by omega, fun n b hn h1 h2 => h n b hn ?_ ?_⟩ <;> rw [← intP_numI] <;> assumption
def C27 : Contract := fun args hp K => match args, hp with
 | [.str s], [] => s.size ≤ 100000 ∧ (instrF s.data.toList = none → ∀ a b : Int, K (.tup [.agg [.int .i64 a, .int .i64 b], .bool false]) []) ∧ (∀ j n, instrF s.data.toList = some (j, n) → K (.tup [.agg [.int .i64 j, .int .i64 n], .bool true]) [])
 | _, _ => False
def L27 (w a : ByteArray) (h : Bool) : LoopAnn := { G := Nat, I := fun i => ⟨[(2, .ptr 0 0), (4, .str w), (5, .str a), (6, .bool h), (7, .int .i64 i)], [.struct [.int .i64 0, .int .i64 0]]⟩, R := fun _ i => i ≤ 24 ∧ ∀ j, j < i → wordL j ≠ w.data.toList, μ := fun i => 24 - i }
theorem L27_I {w a : ByteArray} {h : Bool} (i : Nat) : (L27 w a h).I i = ⟨[(2, .ptr 0 0), (4, .str w), (5, .str a), (6, .bool h), (7, .int .i64 i)], [.struct [.int .i64 0, .int .i64 0]]⟩ := rfl
attribute [local irreducible] rc
theorem s27 : Sound Tryd.prog 27 C27 := by
  refine sound_of_okF ok27 (.cons s24 ⟨_, Tryd.func24, rfl, by decide⟩ (.cons s32 (callable_of_okF ok32) (.cons s64 ⟨_, Tryd.func64, rfl, by decide⟩ .nil))) ?_
  intro args hp K h
  unfold C27 at h
  split at h
  · rename_i s
    obtain ⟨hs, hn, hk⟩ := h
    have hmx := maxLen_val
    have hl : s.data.toList.length = s.size := Array.length_toList
    refine ⟨by simp, [(1, L27 (cut1 s ⟨#[32]⟩) (cut2 s ⟨#[32]⟩) (cut3 s ⟨#[32]⟩))], ?_⟩
    simp (maxSteps:=9^9) only [a27, r27, go_sem, Int.reduceLT, Int.reduceLE, Int.reduceEq, Int.reduceNe, Int.reduceAdd, Int.reduceSub, Int.reduceMul, Int.reduceToNat, Int.reduceNeg, Nat.reduceEqDiff, Nat.reduceLeDiff, Nat.reduceSub, Nat.reduceMul, Nat.reduceLT, Nat.reduceBEq, Nat.reduceAdd]
    refine use24 hs ?_
    simp (maxSteps:=9^9) only [go_sem, Int.reduceLT, Int.reduceLE, Int.reduceEq, Int.reduceNe, Int.reduceAdd, Int.reduceSub, Int.reduceMul, Int.reduceToNat, Int.reduceNeg, Nat.reduceEqDiff, Nat.reduceLeDiff, Nat.reduceSub, Nat.reduceMul, Nat.reduceLT, Nat.reduceBEq, Nat.reduceAdd]
    refine loop_intro (A := L27 (cut1 s ⟨#[32]⟩) (cut2 s ⟨#[32]⟩) (cut3 s ⟨#[32]⟩)) (0 : Nat) ?_ ⟨by omega, fun j hj => absurd hj (by omega)⟩ ?_
    · simp (maxSteps:=9^9) only [go_sem, Int.reduceLT, Int.reduceLE, Int.reduceEq, Int.reduceNe, Int.reduceAdd, Int.reduceSub, Int.reduceMul, Int.reduceToNat, Int.reduceNeg, Nat.reduceEqDiff, Nat.reduceLeDiff, Nat.reduceSub, Nat.reduceMul, Nat.reduceLT, Nat.reduceBEq, Nat.reduceAdd]
      rfl
    · rintro (i : Nat) (⟨g1, g2⟩ : i ≤ 24 ∧ ∀ j, j < i → wordL j ≠ (cut1 s ⟨#[32]⟩).data.toList)
      rw [cut1_L] at g2
      simp (maxSteps:=9^9) only [L27_I, go_sem, Int.reduceLT, Int.reduceLE, Int.reduceEq, Int.reduceNe, Int.reduceAdd, Int.reduceSub, Int.reduceMul, Int.reduceToNat, Int.reduceNeg, Nat.reduceEqDiff, Nat.reduceLeDiff, Nat.reduceSub, Nat.reduceMul, Nat.reduceLT, Nat.reduceBEq, Nat.reduceAdd]
      refine use32 (fun hi => ?_) (fun hi => ?_)
      · simp (maxSteps:=9^9) only [go_sem, Int.reduceLT, Int.reduceLE, Int.reduceEq, Int.reduceNe, Int.reduceAdd, Int.reduceSub, Int.reduceMul, Int.reduceToNat, Int.reduceNeg, Nat.reduceEqDiff, Nat.reduceLeDiff, Nat.reduceSub, Nat.reduceMul, Nat.reduceLT, Nat.reduceBEq, Nat.reduceAdd]
        refine hn ?_ _ _
        unfold instrF
        rw [opFind_none (fun j hj => g2 j (by omega))]
      · simp (maxSteps:=9^9) only [go_sem, Int.reduceLT, Int.reduceLE, Int.reduceEq, Int.reduceNe, Int.reduceAdd, Int.reduceSub, Int.reduceMul, Int.reduceToNat, Int.reduceNeg, Nat.reduceEqDiff, Nat.reduceLeDiff, Nat.reduceSub, Nat.reduceMul, Nat.reduceLT, Nat.reduceBEq, Nat.reduceAdd]
        intro c hc
        refine swn hc (fun hw => ?_) (fun hw => ?_)
        · rintro _ _ m hm
          rw [w64 (by omega)] at hm
          rw [hm]
          refine lpE_intro (A := L27 (cut1 s ⟨#[32]⟩) (cut2 s ⟨#[32]⟩) (cut3 s ⟨#[32]⟩)) (i + 1 : Nat) rfl ⟨hi, fun j hj => ?_⟩ (by show 24 - (i + 1) < 24 - i; omega)
          rw [cut1_L]
          rcases Nat.lt_or_ge j i with h9 | h9
          · exact g2 j h9
          · obtain rfl : j = i := by omega
            intro e
            exact hw (by rw [← bsOf_data (wordB j), ← bsOf_data (cut1 s ⟨#[32]⟩), bsOf_inj, cut1_L]; exact e)
        · intro c2 hc2
          have hf : opFind (s.data.toList.takeWhile (· != 32)) = some i := by
            rw [← cut1_L, ← hw]
            exact opFind_word hi
          refine swd hc2 (fun hk0 => ?_) (fun hk0 => ?_)
          · have hI : instrF s.data.toList = if s.data.toList.contains 32 then none else some ((i : Int), 0) := by
              unfold instrF
              rw [hf]
              simp only [hk0, if_true]
            rw [cut3_L]
            cases hcc : s.data.toList.contains 32 with
            | true =>
              rw [hcc] at hI
              exact hn hI _ _
            | false =>
              rw [hcc] at hI
              exact hk _ _ hI
          · have hI : instrF s.data.toList = if s.data.toList.contains 32 then (numI ((s.data.toList.dropWhile (· != 32)).drop 1)).map (fun n => ((i : Int), n)) else none := by
              unfold instrF
              rw [hf]
              simp only [hk0, if_false]
            refine use64 (by have := cut_size s 32; omega) (fun n b hin hb1 hb2 => ?_)
            rw [cut2_L] at hb1 hb2
            simp (maxSteps:=9^9) only [go_sem, Int.reduceLT, Int.reduceLE, Int.reduceEq, Int.reduceNe, Int.reduceAdd, Int.reduceSub, Int.reduceMul, Int.reduceToNat, Int.reduceNeg, Nat.reduceEqDiff, Nat.reduceLeDiff, Nat.reduceSub, Nat.reduceMul, Nat.reduceLT, Nat.reduceBEq, Nat.reduceAdd]
            rw [cut3_L]
            cases hcc : s.data.toList.contains 32 with
            | true =>
              rw [hcc, if_pos rfl] at hI
              cases b with
              | true =>
                rw [hb1 rfl] at hI
                exact hk _ _ hI
              | false =>
                rw [hb2 rfl] at hI
                exact hn hI _ _
            | false =>
              rw [hcc] at hI
              exact hn hI _ _
  · exact h.elim
theorem use65 {s : ByteArray} {K : SV → List SB → Prop} (hs : s.size ≤ 100000) (h1 : unhexF s = none → ∀ t : ByteArray, t.size ≤ 100000 → K (.tup [.str t, .bool false]) []) (h2 : ∀ l, unhexF s = some l → K (.tup [.str (bsOf l), .bool (keyOk (bsOf l))]) []) : C65 [.str s] [] K := ⟨hs, h1, h2⟩
theorem use66 {s : ByteArray} {K : SV → List SB → Prop} (hs : s.size ≤ 100000) (h1 : numI s.data.toList = none → K (.tup [.int .i64 0, .bool false]) []) (h2 : ∀ n : Int, numI s.data.toList = some n → K (.tup [.int .i64 n, .bool true]) []) : C66 [.str s] [] K := ⟨hs, h1, h2⟩
theorem upto_succ {p : Nat → Prop} {i : Nat} (h : ∀ j, j < i → p j) (hi : p i) : ∀ j, j < i + 1 → p j := by
 intro j hj
 rcases Nat.lt_or_ge j i with h9 | h9
 ·exact h j h9
 ·have : j = i := by omega
  rw [this]; exact hi
def C29 : Contract := fun args hp K => match args, hp with
  | [.str s], [] => s.size ≤ 100000 ∧ (lineF s.data.toList = none → ∀ a b (t : ByteArray), t.size ≤ 100000 → K (.tup [.agg [.int .i64 a, .int .i64 b], .str t, .bool false]) [])
     ∧ (∀ n, lineF s.data.toList = some (.inl n) → K (.tup [.agg [.int .i64 (-1), .int .i64 0], .str n, .bool true]) [])
     ∧ (∀ x, lineF s.data.toList = some (.inr x) → 0 ≤ x.1 → K (.tup [.agg [.int .i64 x.1, .int .i64 x.2], .str ByteArray.empty, .bool true]) [])
  | _, _ => False
def L29 (s : ByteArray) : LoopAnn := { G := Nat, I := fun i => ⟨[(0, .str s), (2, .ptr 0 0), (29, .int .i64 i)], [.struct [.int .i64 0, .int .i64 0]]⟩, R := fun _ i => i ≤ 24 ∧ ∀ j, j < i → opM s.data.toList j = false, μ := fun i => 24 - i }
theorem L29_I {s : ByteArray} (i : Nat) : (L29 s).I i = ⟨[(0, .str s), (2, .ptr 0 0), (29, .int .i64 i)], [.struct [.int .i64 0, .int .i64 0]]⟩ := rfl
theorem s29 : Sound Tryd.prog 29 C29 := by
 refine sound_of_okF ok29 (.cons s65 (callable_of_okF ok65) (.cons s36 (callable_of_okF ok36) (.cons s66 (callable_of_okF ok66) .nil))) ?_
 intro args hp K h
 unfold C29 at h
 split at h
 ·rename_i s
  obtain ⟨hs, hn, hk1, hk2⟩ := h
  have hmx := maxLen_val
  have hl : s.data.toList.length = s.size := Array.length_toList
  refine ⟨by simp, [(1, L29 s)], ?_⟩
  simp (maxSteps:=9^9) only [a29, r29, go_sem, Int.reduceLT, Int.reduceLE, Int.reduceEq, Int.reduceNe, Int.reduceAdd, Int.reduceSub, Int.reduceMul, Int.reduceToNat, Int.reduceNeg, Nat.reduceEqDiff, Nat.reduceLeDiff, Nat.reduceSub, Nat.reduceMul, Nat.reduceLT, Nat.reduceBEq, Nat.reduceAdd]
  rintro _ _ rfl c hc
  have hname : lineF s.data.toList = if nameL.isPrefixOf s.data.toList then (unhexL (s.data.toList.drop 5)).bind (fun k => if keyOk (bsOf k) then some (.inl (bsOf k)) else none) else (instrF s.data.toList).map .inr := rfl
  refine swd hc (fun h5 => ?_) (fun h5 => ?_)
  ·refine nd_intro (by omega) ?_
   rintro u hu c2 hc2
   have hul : u.data.toList = s.data.toList.take 5 := by rw [hu, Go.Lib.extract_data]; simp
   by_cases hp : u = ⟨#[110, 97, 109, 101, 32]⟩
   ·obtain rfl : c2 = true := by rw [hc2]; exact decide_eq_true hp
    have hpre : nameL.isPrefixOf s.data.toList = true := by
     rw [List.isPrefixOf_iff_prefix]
     refine ⟨s.data.toList.drop 5, ?_⟩
     have e : nameL = s.data.toList.take 5 := by rw [← hul, hp]; rfl
     rw [e, List.take_append_drop]
    simp (maxSteps:=9^9) only [go_sem, Int.reduceLT, Int.reduceLE, Int.reduceEq, Int.reduceNe, Int.reduceAdd, Int.reduceSub, Int.reduceMul, Int.reduceToNat, Int.reduceNeg, Nat.reduceEqDiff, Nat.reduceLeDiff, Nat.reduceSub, Nat.reduceMul, Nat.reduceLT, Nat.reduceBEq, Nat.reduceAdd]
    refine nd_intro (by omega) ?_
    rintro u2 hu2
    have hul2 : u2.data.toList = s.data.toList.drop 5 := by
     rw [hu2, Go.Lib.extract_data]
     exact List.take_of_length_le (by simp)
    refine use65 (by rw [size_L, hul2, List.length_drop]; omega) (fun hx t ht => ?_) (fun l hx => ?_)
    ·simp (maxSteps:=9^9) only [go_sem, Int.reduceLT, Int.reduceLE, Int.reduceEq, Int.reduceNe, Int.reduceAdd, Int.reduceSub, Int.reduceMul, Int.reduceToNat, Int.reduceNeg, Nat.reduceEqDiff, Nat.reduceLeDiff, Nat.reduceSub, Nat.reduceMul, Nat.reduceLT, Nat.reduceBEq, Nat.reduceAdd]
     refine hn ?_ _ _ _ ht
     rw [hname, if_pos hpre, ← hul2]
     show (unhexF u2).bind _ = none
     rw [hx]
     rfl
    ·simp (maxSteps:=9^9) only [go_sem, Int.reduceLT, Int.reduceLE, Int.reduceEq, Int.reduceNe, Int.reduceAdd, Int.reduceSub, Int.reduceMul, Int.reduceToNat, Int.reduceNeg, Nat.reduceEqDiff, Nat.reduceLeDiff, Nat.reduceSub, Nat.reduceMul, Nat.reduceLT, Nat.reduceBEq, Nat.reduceAdd]
     have hL : lineF s.data.toList = if keyOk (bsOf l) then some (.inl (bsOf l)) else none := by
      rw [hname, if_pos hpre, ← hul2]
      show (unhexF u2).bind _ = _
      rw [hx]
      rfl
     cases hko : keyOk (bsOf l) with
     | true =>
      rw [hko] at hL
      exact hk1 _ hL
     | false =>
      rw [hko] at hL
      refine hn hL _ _ _ ?_
      rw [bsOf_size]
      have e1 := unhexL_len _ _ hx
      rw [hul2, List.length_drop] at e1
      omega
   ·obtain rfl : c2 = false := by rw [hc2]; exact decide_eq_false hp
    simp (maxSteps:=9^9) only [go_sem, Int.reduceLT, Int.reduceLE, Int.reduceEq, Int.reduceNe, Int.reduceAdd, Int.reduceSub, Int.reduceMul, Int.reduceToNat, Int.reduceNeg, Nat.reduceEqDiff, Nat.reduceLeDiff, Nat.reduceSub, Nat.reduceMul, Nat.reduceLT, Nat.reduceBEq, Nat.reduceAdd]
    have hnp : ¬ nameL.isPrefixOf s.data.toList = true := fun h => hp (by
     rw [← bsOf_data u, bs_eq, hul]
     obtain ⟨r, hr⟩ := List.isPrefixOf_iff_prefix.1 h
     rw [← hr]
     rfl)
    have hL : lineF s.data.toList = (instrF s.data.toList).map .inr := by rw [hname, if_neg hnp]
    refine loop_intro (A := L29 s) (0 : Nat) rfl ⟨by omega, fun j hj => absurd hj (by omega)⟩ ?_
    rintro (i : Nat) (⟨g1, g2⟩ : i ≤ 24 ∧ ∀ j, j < i → opM s.data.toList j = false)
    simp (maxSteps:=9^9) only [L29_I, go_sem, Int.reduceLT, Int.reduceLE, Int.reduceEq, Int.reduceNe, Int.reduceAdd, Int.reduceSub, Int.reduceMul, Int.reduceToNat, Int.reduceNeg, Nat.reduceEqDiff, Nat.reduceLeDiff, Nat.reduceSub, Nat.reduceMul, Nat.reduceLT, Nat.reduceBEq, Nat.reduceAdd]
    intro c3 hc3
    refine swd hc3 (fun hi => ?_) (fun hi => ?_)
    ·have hi : i < 24 := by omega
     refine use36 hi ?_
     simp (maxSteps:=9^9) only [go_sem, Int.reduceLT, Int.reduceLE, Int.reduceEq, Int.reduceNe, Int.reduceAdd, Int.reduceSub, Int.reduceMul, Int.reduceToNat, Int.reduceNeg, Nat.reduceEqDiff, Nat.reduceLeDiff, Nat.reduceSub, Nat.reduceMul, Nat.reduceLT, Nat.reduceBEq, Nat.reduceAdd]
     intro c4 hc4
     refine swd hc4 (fun hk0 => ?_) (fun hk0 => ?_)
     ·intro c5 hc5
      refine swd hc5 (fun hw => ?_) (fun hw => ?_)
      ·have hm : opM s.data.toList i = true := by
        unfold opM
        rw [if_pos hk0]
        exact decide_eq_true (by rw [hw]; rfl)
       have hI := opM_instr hi hm
       rw [if_pos hk0] at hI
       exact hk2 _ (by rw [hL, hI]; rfl) (by show (0 : Int) ≤ i; omega)
      ·have hm : opM s.data.toList i = false := by
        unfold opM
        rw [if_pos hk0]
        exact decide_eq_false (fun e => hw (by rw [← bsOf_data s, bs_eq]; exact e))
       intro c6 hc6
       refine swd hc6 (fun hk => absurd hk (by omega)) (fun _ => ?_)
       rintro _ _ m9 hm9
       rw [w64 (by omega)] at hm9
       rw [hm9]
       exact lpE_intro (A := L29 s) (i + 1 : Nat) rfl ⟨hi, upto_succ g2 hm⟩ (by show 24 - (i + 1) < 24 - i; omega)
     ·intro c6 hc6
      refine swd hc6 (fun hkp => ?_) (fun hkp => ?_)
      ·rintro _ _ rfl _ m1 hm1 c7 hc7
       have hws : (wordB i).size = (wordL i).length := size_L _
       have hw10 := word_len i hi
       refine swd hc7 (fun hlt => ?_) (fun hlt => ?_)
       ·rintro _ m2 hm2 _ _ m3 hm3
        rw [w64 (by omega)] at hm3
        refine nd_intro (by omega) ?_
        rintro u3 hu3
        have hm3' : m3.toNat = (wordL i).length + 1 := by omega
        rw [hm3'] at hu3
        refine ⟨by show (wordB i).size + 1 ≤ maxLen; omega, ?_⟩
        rintro u4 hu4 c8 hc8
        have hul3 : u3.data.toList = s.data.toList.take ((wordL i).length + 1) := by rw [hu3, Go.Lib.extract_data]; simp
        have hul4 : u4.data.toList = wordL i ++ [32] := by rw [hu4]; simp [wordL]
        by_cases hp2 : u3 = u4
        ·obtain rfl : c8 = true := by rw [hc8]; exact decide_eq_true hp2
         have hm : opM s.data.toList i = true := by
          unfold opM
          rw [if_neg hk0, List.isPrefixOf_iff_prefix]
          exact ⟨s.data.toList.drop ((wordL i).length + 1), by rw [← hul4, ← hp2, hul3, List.take_append_drop]⟩
         have hI := opM_instr hi hm
         rw [if_neg hk0] at hI
         simp (maxSteps:=9^9) only [go_sem, Int.reduceLT, Int.reduceLE, Int.reduceEq, Int.reduceNe, Int.reduceAdd, Int.reduceSub, Int.reduceMul, Int.reduceToNat, Int.reduceNeg, Nat.reduceEqDiff, Nat.reduceLeDiff, Nat.reduceSub, Nat.reduceMul, Nat.reduceLT, Nat.reduceBEq, Nat.reduceAdd]
         rintro _ m4 hm4 _ _ m5 hm5
         rw [w64 (by omega)] at hm5
         refine nd_intro (by omega) ?_
         rintro u5 hu5
         have hm5' : m5.toNat = (wordL i).length + 1 := by omega
         rw [hm5'] at hu5
         have hul5 : u5.data.toList = s.data.toList.drop ((wordL i).length + 1) := by
          rw [hu5, Go.Lib.extract_data]
          exact List.take_of_length_le (by simp)
         refine use66 (by rw [size_L, hul5, List.length_drop]; omega) (fun hx => ?_) (fun n hx => ?_)
         ·simp (maxSteps:=9^9) only [go_sem, Int.reduceLT, Int.reduceLE, Int.reduceEq, Int.reduceNe, Int.reduceAdd, Int.reduceSub, Int.reduceMul, Int.reduceToNat, Int.reduceNeg, Nat.reduceEqDiff, Nat.reduceLeDiff, Nat.reduceSub, Nat.reduceMul, Nat.reduceLT, Nat.reduceBEq, Nat.reduceAdd]
          rw [← hul5, hx] at hI
          exact hn (by rw [hL, hI]; rfl) _ _ _ (by decide)
         ·simp (maxSteps:=9^9) only [go_sem, Int.reduceLT, Int.reduceLE, Int.reduceEq, Int.reduceNe, Int.reduceAdd, Int.reduceSub, Int.reduceMul, Int.reduceToNat, Int.reduceNeg, Nat.reduceEqDiff, Nat.reduceLeDiff, Nat.reduceSub, Nat.reduceMul, Nat.reduceLT, Nat.reduceBEq, Nat.reduceAdd]
          rw [← hul5, hx] at hI
          exact hk2 _ (by rw [hL, hI]; rfl) (by show (0 : Int) ≤ i; omega)
        ·obtain rfl : c8 = false := by rw [hc8]; exact decide_eq_false hp2
         have hm : opM s.data.toList i = false := by
          unfold opM
          rw [if_neg hk0]
          cases hb : (wordL i ++ [32]).isPrefixOf s.data.toList with
          | false => rfl
          | true =>
           exfalso
           obtain ⟨r, hr⟩ := List.isPrefixOf_iff_prefix.1 hb
           refine hp2 ?_
           rw [← bsOf_data u3, ← bsOf_data u4, bsOf_inj, hul3, hul4, ← hr]
           exact List.take_left' (by simp)
         simp (maxSteps:=9^9) only [go_sem, Int.reduceLT, Int.reduceLE, Int.reduceEq, Int.reduceNe, Int.reduceAdd, Int.reduceSub, Int.reduceMul, Int.reduceToNat, Int.reduceNeg, Nat.reduceEqDiff, Nat.reduceLeDiff, Nat.reduceSub, Nat.reduceMul, Nat.reduceLT, Nat.reduceBEq, Nat.reduceAdd]
         rintro _ _ m9 hm9
         rw [w64 (by omega)] at hm9
         rw [hm9]
         exact lpE_intro (A := L29 s) (i + 1 : Nat) rfl ⟨hi, upto_succ g2 hm⟩ (by show 24 - (i + 1) < 24 - i; omega)
       ·have hm : opM s.data.toList i = false := by
         unfold opM
         rw [if_neg hk0]
         cases hb : (wordL i ++ [32]).isPrefixOf s.data.toList with
         | false => rfl
         | true =>
          exfalso
          obtain ⟨r, hr⟩ := List.isPrefixOf_iff_prefix.1 hb
          have := congrArg List.length hr
          simp at this
          omega
        rintro _ _ m9 hm9
        rw [w64 (by omega)] at hm9
        rw [hm9]
        exact lpE_intro (A := L29 s) (i + 1 : Nat) rfl ⟨hi, upto_succ g2 hm⟩ (by show 24 - (i + 1) < 24 - i; omega)
      ·exfalso
       have := (opK_cases (op := (i : Int)) (by omega)).2
       omega
    ·have hIn : instrF s.data.toList = none := opM_none (fun j hj => g2 j (by omega))
     exact hn (by rw [hL, hIn]; rfl) _ _ _ (by decide)
  ·have hnp : ¬ nameL.isPrefixOf s.data.toList = true := fun h => by
    obtain ⟨r, hr⟩ := List.isPrefixOf_iff_prefix.1 h
    have := congrArg List.length hr
    simp [nameL] at this
    omega
   have hL : lineF s.data.toList = (instrF s.data.toList).map .inr := by rw [hname, if_neg hnp]
   refine loop_intro (A := L29 s) (0 : Nat) rfl ⟨by omega, fun j hj => absurd hj (by omega)⟩ ?_
   rintro (i : Nat) (⟨g1, g2⟩ : i ≤ 24 ∧ ∀ j, j < i → opM s.data.toList j = false)
   simp (maxSteps:=9^9) only [L29_I, go_sem, Int.reduceLT, Int.reduceLE, Int.reduceEq, Int.reduceNe, Int.reduceAdd, Int.reduceSub, Int.reduceMul, Int.reduceToNat, Int.reduceNeg, Nat.reduceEqDiff, Nat.reduceLeDiff, Nat.reduceSub, Nat.reduceMul, Nat.reduceLT, Nat.reduceBEq, Nat.reduceAdd]
   intro c3 hc3
   refine swd hc3 (fun hi => ?_) (fun hi => ?_)
   ·have hi : i < 24 := by omega
    refine use36 hi ?_
    simp (maxSteps:=9^9) only [go_sem, Int.reduceLT, Int.reduceLE, Int.reduceEq, Int.reduceNe, Int.reduceAdd, Int.reduceSub, Int.reduceMul, Int.reduceToNat, Int.reduceNeg, Nat.reduceEqDiff, Nat.reduceLeDiff, Nat.reduceSub, Nat.reduceMul, Nat.reduceLT, Nat.reduceBEq, Nat.reduceAdd]
    intro c4 hc4
    refine swd hc4 (fun hk0 => ?_) (fun hk0 => ?_)
    ·intro c5 hc5
     refine swd hc5 (fun hw => ?_) (fun hw => ?_)
     ·have hm : opM s.data.toList i = true := by
       unfold opM
       rw [if_pos hk0]
       exact decide_eq_true (by rw [hw]; rfl)
      have hI := opM_instr hi hm
      rw [if_pos hk0] at hI
      exact hk2 _ (by rw [hL, hI]; rfl) (by show (0 : Int) ≤ i; omega)
     ·have hm : opM s.data.toList i = false := by
       unfold opM
       rw [if_pos hk0]
       exact decide_eq_false (fun e => hw (by rw [← bsOf_data s, bs_eq]; exact e))
      intro c6 hc6
      refine swd hc6 (fun hk => absurd hk (by omega)) (fun _ => ?_)
      rintro _ _ m9 hm9
      rw [w64 (by omega)] at hm9
      rw [hm9]
      exact lpE_intro (A := L29 s) (i + 1 : Nat) rfl ⟨hi, upto_succ g2 hm⟩ (by show 24 - (i + 1) < 24 - i; omega)
    ·intro c6 hc6
     refine swd hc6 (fun hkp => ?_) (fun hkp => ?_)
     ·rintro _ _ rfl _ m1 hm1 c7 hc7
      have hws : (wordB i).size = (wordL i).length := size_L _
      have hw10 := word_len i hi
      refine swd hc7 (fun hlt => ?_) (fun hlt => ?_)
      ·rintro _ m2 hm2 _ _ m3 hm3
       rw [w64 (by omega)] at hm3
       refine nd_intro (by omega) ?_
       rintro u3 hu3
       have hm3' : m3.toNat = (wordL i).length + 1 := by omega
       rw [hm3'] at hu3
       refine ⟨by show (wordB i).size + 1 ≤ maxLen; omega, ?_⟩
       rintro u4 hu4 c8 hc8
       have hul3 : u3.data.toList = s.data.toList.take ((wordL i).length + 1) := by rw [hu3, Go.Lib.extract_data]; simp
       have hul4 : u4.data.toList = wordL i ++ [32] := by rw [hu4]; simp [wordL]
       by_cases hp2 : u3 = u4
       ·obtain rfl : c8 = true := by rw [hc8]; exact decide_eq_true hp2
        have hm : opM s.data.toList i = true := by
         unfold opM
         rw [if_neg hk0, List.isPrefixOf_iff_prefix]
         exact ⟨s.data.toList.drop ((wordL i).length + 1), by rw [← hul4, ← hp2, hul3, List.take_append_drop]⟩
        have hI := opM_instr hi hm
        rw [if_neg hk0] at hI
        simp (maxSteps:=9^9) only [go_sem, Int.reduceLT, Int.reduceLE, Int.reduceEq, Int.reduceNe, Int.reduceAdd, Int.reduceSub, Int.reduceMul, Int.reduceToNat, Int.reduceNeg, Nat.reduceEqDiff, Nat.reduceLeDiff, Nat.reduceSub, Nat.reduceMul, Nat.reduceLT, Nat.reduceBEq, Nat.reduceAdd]
        rintro _ m4 hm4 _ _ m5 hm5
        rw [w64 (by omega)] at hm5
        refine nd_intro (by omega) ?_
        rintro u5 hu5
        have hm5' : m5.toNat = (wordL i).length + 1 := by omega
        rw [hm5'] at hu5
        have hul5 : u5.data.toList = s.data.toList.drop ((wordL i).length + 1) := by
         rw [hu5, Go.Lib.extract_data]
         exact List.take_of_length_le (by simp)
        refine use66 (by rw [size_L, hul5, List.length_drop]; omega) (fun hx => ?_) (fun n hx => ?_)
        ·simp (maxSteps:=9^9) only [go_sem, Int.reduceLT, Int.reduceLE, Int.reduceEq, Int.reduceNe, Int.reduceAdd, Int.reduceSub, Int.reduceMul, Int.reduceToNat, Int.reduceNeg, Nat.reduceEqDiff, Nat.reduceLeDiff, Nat.reduceSub, Nat.reduceMul, Nat.reduceLT, Nat.reduceBEq, Nat.reduceAdd]
         rw [← hul5, hx] at hI
         exact hn (by rw [hL, hI]; rfl) _ _ _ (by decide)
        ·simp (maxSteps:=9^9) only [go_sem, Int.reduceLT, Int.reduceLE, Int.reduceEq, Int.reduceNe, Int.reduceAdd, Int.reduceSub, Int.reduceMul, Int.reduceToNat, Int.reduceNeg, Nat.reduceEqDiff, Nat.reduceLeDiff, Nat.reduceSub, Nat.reduceMul, Nat.reduceLT, Nat.reduceBEq, Nat.reduceAdd]
         rw [← hul5, hx] at hI
         exact hk2 _ (by rw [hL, hI]; rfl) (by show (0 : Int) ≤ i; omega)
       ·obtain rfl : c8 = false := by rw [hc8]; exact decide_eq_false hp2
        have hm : opM s.data.toList i = false := by
         unfold opM
         rw [if_neg hk0]
         cases hb : (wordL i ++ [32]).isPrefixOf s.data.toList with
         | false => rfl
         | true =>
          exfalso
          obtain ⟨r, hr⟩ := List.isPrefixOf_iff_prefix.1 hb
          refine hp2 ?_
          rw [← bsOf_data u3, ← bsOf_data u4, bsOf_inj, hul3, hul4, ← hr]
          exact List.take_left' (by simp)
        simp (maxSteps:=9^9) only [go_sem, Int.reduceLT, Int.reduceLE, Int.reduceEq, Int.reduceNe, Int.reduceAdd, Int.reduceSub, Int.reduceMul, Int.reduceToNat, Int.reduceNeg, Nat.reduceEqDiff, Nat.reduceLeDiff, Nat.reduceSub, Nat.reduceMul, Nat.reduceLT, Nat.reduceBEq, Nat.reduceAdd]
        rintro _ _ m9 hm9
        rw [w64 (by omega)] at hm9
        rw [hm9]
        exact lpE_intro (A := L29 s) (i + 1 : Nat) rfl ⟨hi, upto_succ g2 hm⟩ (by show 24 - (i + 1) < 24 - i; omega)
      ·have hm : opM s.data.toList i = false := by
        unfold opM
        rw [if_neg hk0]
        cases hb : (wordL i ++ [32]).isPrefixOf s.data.toList with
        | false => rfl
        | true =>
         exfalso
         obtain ⟨r, hr⟩ := List.isPrefixOf_iff_prefix.1 hb
         have := congrArg List.length hr
         simp at this
         omega
       rintro _ _ m9 hm9
       rw [w64 (by omega)] at hm9
       rw [hm9]
       exact lpE_intro (A := L29 s) (i + 1 : Nat) rfl ⟨hi, upto_succ g2 hm⟩ (by show 24 - (i + 1) < 24 - i; omega)
     ·exfalso
      have := (opK_cases (op := (i : Int)) (by omega)).2
      omega
   ·have hIn : instrF s.data.toList = none := opM_none (fun j hj => g2 j (by omega))
    exact hn (by rw [hL, hIn]; rfl) _ _ _ (by decide)
 ·exact h.elim
end Go.V
namespace Go.V
open Go.Proofs
set_option maxRecDepth 100000
set_option maxHeartbeats 8000000
set_option linter.unusedSimpArgs false
set_option linter.unnecessarySimpa false
set_option linter.unusedVariables false
def C28 : Contract := fun args hp K => match args, hp with
 | [.str s], [] => s.size ≤ 100000 ∧ K (.own 0) [.row true 16 .str ((linesL s.data.toList).map bsOf)]
 | _, _ => False
structure U28 where
 i : Nat
 f : Nat
 out : List (List UInt8)
def R28 (s : ByteArray) (g : U28) : Prop := (g.f ≤ g.i ∧ g.i ≤ s.size ∧ g.out.length ≤ g.i) ∧ linesL s.data.toList = g.out ++ linesGo (s.data.toList.drop g.i) ((s.data.toList.take g.i).drop g.f)
def L28 (s : ByteArray) : LoopAnn := { G := U28, I := fun g => ⟨[(0, .str s), (3, .own 0), (4, .int .i64 g.f), (5, .int .i64 g.i)], [.row true 16 .str (g.out.map bsOf)]⟩, R := fun _ g => R28 s g, μ := fun g => s.size - g.i }
theorem L28_I {s : ByteArray} (g : U28) : (L28 s).I g = ⟨[(0, .str s), (3, .own 0), (4, .int .i64 g.f), (5, .int .i64 g.i)], [.row true 16 .str (g.out.map bsOf)]⟩ := rfl
attribute [local irreducible] rc
theorem s28 : Sound Tryd.prog 28 C28 := by
  refine sound_of_okF ok28 .nil ?_
  intro args hp K h
  unfold C28 at h
  split at h
  · rename_i s
    obtain ⟨hs, h⟩ := h
    have hmx := maxLen_val
    have hl : s.data.toList.length = s.size := Array.length_toList
    refine ⟨by simp, [(1, L28 s)], ?_⟩
    simp (maxSteps:=9^9) only [a28, r28, go_sem, Int.reduceLT, Int.reduceLE, Int.reduceEq, Int.reduceNe, Int.reduceAdd, Int.reduceSub, Int.reduceMul, Int.reduceToNat, Int.reduceNeg, Nat.reduceEqDiff, Nat.reduceLeDiff, Nat.reduceSub, Nat.reduceMul, Nat.reduceLT, Nat.reduceBEq, Nat.reduceAdd]
    refine loop_intro (A := L28 s) (⟨0, 0, []⟩ : U28) ?_ ⟨⟨by simp, by simp, by simp⟩, by simp [linesL]⟩ ?_
    · simp (maxSteps:=9^9) only [go_sem, Int.reduceLT, Int.reduceLE, Int.reduceEq, Int.reduceNe, Int.reduceAdd, Int.reduceSub, Int.reduceMul, Int.reduceToNat, Int.reduceNeg, Nat.reduceEqDiff, Nat.reduceLeDiff, Nat.reduceSub, Nat.reduceMul, Nat.reduceLT, Nat.reduceBEq, Nat.reduceAdd]
      rfl
    · rintro (⟨i, f, out⟩ : U28) (⟨⟨g1, g2, g3⟩, g4⟩ : R28 s ⟨i, f, out⟩)
      simp only at g1 g2 g3 g4
      simp (maxSteps:=9^9) only [L28_I, go_sem, Int.reduceLT, Int.reduceLE, Int.reduceEq, Int.reduceNe, Int.reduceAdd, Int.reduceSub, Int.reduceMul, Int.reduceToNat, Int.reduceNeg, Nat.reduceEqDiff, Nat.reduceLeDiff, Nat.reduceSub, Nat.reduceMul, Nat.reduceLT, Nat.reduceBEq, Nat.reduceAdd]
      rintro _ _ rfl c hc
      have hol : (out.map bsOf).length = out.length := List.length_map _
      refine swd hc (fun h0 => ?_) (fun h0 => ?_)
      · have h0 : i < s.size := by omega
        have hd : s.data.toList.drop i = s.data.toList.getD i 0 :: s.data.toList.drop (i + 1) := by
          rw [List.drop_eq_getElem_cons (by omega), getD_eq (by omega)]
        have ht : s.data.toList.take (i + 1) = s.data.toList.take i ++ [s.data.toList.getD i 0] := by
          rw [List.take_succ_eq_append_getElem (by omega), getD_eq (by omega)]
        refine nd_intro h0 ?_
        rintro m rfl c2 hc2
        generalize s.data.toList.getD i 0 = a at hd ht hc2
        rw [hd] at g4
        simp only [linesGo] at g4
        refine swd hc2 (fun h1 => ?_) (fun h1 => ?_)
        · have ha : a = 10 := by
            have : a.toNat = (10 : UInt8).toNat := by simp; omega
            exact UInt8.toNat.inj this
          rw [if_pos ha] at g4
          refine nd_intro ⟨g1, g2⟩ ?_
          rintro u hu
          refine ⟨fun _ => by omega, ?_⟩
          rintro _ _ _ m1 hm1 _ _ m2 hm2
          rw [w64 (by omega)] at hm1
          rw [w64 (by omega)] at hm2
          rw [hm1, hm2]
          have e : (s.data.toList.take (i + 1)).drop (i + 1) = [] := List.drop_of_length_le (by simp; omega)
          refine lpE_intro (A := L28 s) (⟨i + 1, i + 1, out ++ [(s.data.toList.take i).drop f]⟩ : U28) ?_ ⟨⟨by simp, by show i + 1 ≤ s.size; omega, by simp; omega⟩, ?_⟩ (by show s.size - (i + 1) < s.size - i; omega)
          · have hu2 : u = bsOf ((s.data.toList.take i).drop f) := by
              rw [eq_comm, bs_eq, hu, Go.Lib.extract_data, List.drop_take]
            rw [L28_I, hu2, List.map_append]
            rfl
          · show linesL s.data.toList = (out ++ [(s.data.toList.take i).drop f]) ++ linesGo (s.data.toList.drop (i + 1)) ((s.data.toList.take (i + 1)).drop (i + 1))
            rw [g4, e, List.append_assoc]
            rfl
        · have ha : ¬ a = 10 := by
            rintro rfl
            exact h1 rfl
          rw [if_neg ha] at g4
          rintro _ _ m1 hm1
          rw [w64 (by omega)] at hm1
          rw [hm1]
          refine lpE_intro (A := L28 s) (⟨i + 1, f, out⟩ : U28) rfl ⟨⟨by show f ≤ i + 1; omega, by show i + 1 ≤ s.size; omega, by show out.length ≤ i + 1; omega⟩, ?_⟩ (by show s.size - (i + 1) < s.size - i; omega)
          show linesL s.data.toList = out ++ linesGo (s.data.toList.drop (i + 1)) ((s.data.toList.take (i + 1)).drop f)
          rw [g4, ht, List.drop_append_of_le_length (by simp; omega)]
      · have hi : i = s.size := by omega
        subst hi
        rw [List.drop_of_length_le (by omega), List.take_of_length_le (by omega)] at g4
        simp only [linesGo] at g4
        rintro _ _ rfl c2 hc2
        refine swd hc2 (fun h1 => ?_) (fun h1 => ?_)
        · have hne : s.data.toList.drop f ≠ [] := by
            intro e
            have := congrArg List.length e
            simp at this
            omega
          rw [if_neg hne] at g4
          refine nd_intro (by omega) ?_
          rintro u hu
          refine ⟨fun _ => by omega, ?_⟩
          rintro _
          have hu2 : u = bsOf (s.data.toList.drop f) := by
            rw [eq_comm, bs_eq, hu, Go.Lib.extract_data]
            rw [List.take_of_length_le (by simp)]
          rw [hu2]
          rw [g4, List.map_append] at h
          exact h
        · have he : s.data.toList.drop f = [] := List.drop_of_length_le (by omega)
          rw [if_pos he, List.append_nil] at g4
          rw [g4] at h
          exact h
  · exact h.elim
theorem use25 {s : ByteArray} {K : SV → List SB → Prop} (hs : s.size ≤ 100000) (h1 : nameL.isPrefixOf s.data.toList = true → K (.tup [.str (bsOf (s.data.toList.drop 5)), .bool true]) []) (h2 : ¬ nameL.isPrefixOf s.data.toList = true → K (.tup [.str s, .bool false]) []) : C25 [.str s, .str ⟨#[110, 97, 109, 101, 32]⟩] [] K := by
 have hmx := maxLen_val
 have e1 : cutp2 s ⟨#[110, 97, 109, 101, 32]⟩ = nameL.isPrefixOf s.data.toList := rfl
 have e2 : cutp1 s ⟨#[110, 97, 109, 101, 32]⟩ = bsOf (if nameL.isPrefixOf s.data.toList then s.data.toList.drop 5 else s.data.toList) := rfl
 refine ⟨?_, ?_⟩
 ·rw [e2, bsOf_size]
  have := size_L s
  split <;> simp <;> omega
 ·rw [e1, e2]
  cases hp : nameL.isPrefixOf s.data.toList with
  | true => rw [hp] at h1; exact h1 rfl
  | false => rw [hp] at h2; exact h2 (by simp)
theorem use26 {s : ByteArray} {K : SV → List SB → Prop} (hs : s.size ≤ 100000) (h1 : unhexF s = none → K (.tup [.str ByteArray.empty, .bool false]) []) (h2 : ∀ l, unhexF s = some l → K (.tup [.str (bsOf l), .bool (keyOk (bsOf l))]) []) : C26 [.str s] [] K := ⟨hs, h1, h2⟩
theorem use27 {s : ByteArray} {K : SV → List SB → Prop} (hs : s.size ≤ 100000) (h1 : instrF s.data.toList = none → ∀ a b : Int, K (.tup [.agg [.int .i64 a, .int .i64 b], .bool false]) []) (h2 : ∀ j n, instrF s.data.toList = some (j, n) → K (.tup [.agg [.int .i64 j, .int .i64 n], .bool true]) []) : C27 [.str s] [] K := ⟨hs, h1, h2⟩
theorem use17 {ns : List ByteArray} {cs : List EvT.den} {K : SV → List SB → Prop} (h : K (.bool (formP ns cs)) []) : C17 [.agg [.sl true 16 .str ns, .sl true 16 EvT cs]] [] K := .inr ⟨_, _, rfl, .inr ⟨_, _, rfl, h⟩⟩
theorem use18 {ns : List ByteArray} {cs : List EvT.den} {K : SV → List SB → Prop} (h : K (.bool (formP ns cs)) []) : C18 [.agg [.sl true 16 .str ns, .sl true 16 EvT cs]] [] K := by
 exact .inr ⟨_, _, rfl, .inr ⟨_, _, rfl, h⟩⟩
def pOut (K : SV → List SB → Prop) : PR → Prop
 | .bad i => K (.tup [.agg [.nils, .nils], .int .i64 i, .int .i64 2]) []
 | .fin ns cs late => if late = true ∨ formP ns cs = false then K (.tup [.agg [.nils, .nils], .int .i64 0, .int .i64 2]) [] else K (.tup [.agg [.sl true 16 .str ns, .sl true 16 EvT cs], .int .i64 0, .int .i64 0]) []
def C9 : Contract := fun args hp K => match args, hp with
 | [.str s], [] => (20000 < s.size → K (.tup [.agg [.nils, .nils], .int .i64 0, .int .i64 4]) []) ∧ (s.size ≤ 20000 → pOut K (parseGo (linesL s.data.toList) 1 [] [] false))
 | _, _ => False
structure U9 where
 r : ByteArray
 i : Nat
 ns : List ByteArray
 cs : List EvT.den
 late : Bool
def R9 (s : ByteArray) (g : U9) : Prop := (g.i + g.r.size ≤ s.size ∧ g.ns.length ≤ g.i ∧ g.cs.length ≤ g.i) ∧ parseGo (linesL s.data.toList) 1 [] [] false = parseGo (linesL g.r.data.toList) (g.i + 1 : Nat) g.ns g.cs g.late
def L9 (s : ByteArray) : LoopAnn := { G := U9, I := fun g => ⟨[(0, .str g.r), (2, .ptr 0 0), (5, .ptr 1 0), (6, .bool g.late), (7, .int .i64 (g.i + 1 : Nat))], [.struct [.nils, .nils], .struct [.own 2, .own 3], .row true 16 .str g.ns, .row true 16 EvT g.cs]⟩, R := fun _ g => R9 s g, μ := fun g => g.r.size }
theorem L9_I {s : ByteArray} (g : U9) : (L9 s).I g = ⟨[(0, .str g.r), (2, .ptr 0 0), (5, .ptr 1 0), (6, .bool g.late), (7, .int .i64 (g.i + 1 : Nat))], [.struct [.nils, .nils], .struct [.own 2, .own 3], .row true 16 .str g.ns, .row true 16 EvT g.cs]⟩ := rfl
theorem s9 : Sound Tryd.prog 9 C9 := by
  refine sound_of_okF ok9 (.cons s24 ⟨_, Tryd.func24, rfl, by decide⟩ (.cons s25 ⟨_, Tryd.func25, rfl, by decide⟩ (.cons s26 (callable_of_okF ok26) (.cons s27 (callable_of_okF ok27) (.cons s17 (callable_of_okF ok17) .nil))))) ?_
  intro args hp K h
  unfold C9 at h
  split at h
  · rename_i s
    obtain ⟨ha, h⟩ := h
    have hmx := maxLen_val
    refine ⟨by simp, [(1, L9 s)], ?_⟩
    simp (maxSteps:=9^9) only [a9, r9, go_sem, Int.reduceLT, Int.reduceLE, Int.reduceEq, Int.reduceNe, Int.reduceAdd, Int.reduceSub, Int.reduceMul, Int.reduceToNat, Int.reduceNeg, Nat.reduceEqDiff, Nat.reduceLeDiff, Nat.reduceSub, Nat.reduceMul, Nat.reduceLT, Nat.reduceBEq, Nat.reduceAdd]
    rintro _ _ rfl c hc
    refine swd hc (fun h0 => ?_) (fun h0 => ?_)
    · exact ha (by omega)
    · have h := h (by omega)
      refine loop_intro (A := L9 s) (⟨s, 0, [], [], false⟩ : U9) ?_ ⟨⟨by simp, by simp, by simp⟩, rfl⟩ ?_
      · simp (maxSteps:=9^9) only [go_sem, Int.reduceLT, Int.reduceLE, Int.reduceEq, Int.reduceNe, Int.reduceAdd, Int.reduceSub, Int.reduceMul, Int.reduceToNat, Int.reduceNeg, Nat.reduceEqDiff, Nat.reduceLeDiff, Nat.reduceSub, Nat.reduceMul, Nat.reduceLT, Nat.reduceBEq, Nat.reduceAdd]
        rfl
      · rintro (⟨r, i, ns, cs, late⟩ : U9) (⟨⟨g1, g2, g3⟩, g4⟩ : R9 s ⟨r, i, ns, cs, late⟩)
        simp only at g1 g2 g3 g4
        simp (maxSteps:=9^9) only [L9_I, go_sem, Int.reduceLT, Int.reduceLE, Int.reduceEq, Int.reduceNe, Int.reduceAdd, Int.reduceSub, Int.reduceMul, Int.reduceToNat, Int.reduceNeg, Nat.reduceEqDiff, Nat.reduceLeDiff, Nat.reduceSub, Nat.reduceMul, Nat.reduceLT, Nat.reduceBEq, Nat.reduceAdd]
        intro c2 hc2
        refine swn hc2 (fun h1 => ?_) (fun h1 => ?_)
        · have hne : r.data.toList ≠ [] := fun e => h1 (by rw [← bsOf_data r, e]; rfl)
          have hL : linesL r.data.toList = (cut1 r ⟨#[10]⟩).data.toList :: linesL (cut2 r ⟨#[10]⟩).data.toList := by
            rw [linesL_cut hne]
            simp [cut1, cut2, bsOf]
          have hz1 := cut_size r 10
          have hz2 : (cut2 r ⟨#[10]⟩).size < r.size := by
            have := cut_lt (c := 10) hne
            rw [← size_L r] at this
            have e : (cut2 r ⟨#[10]⟩).size = (Go.Lib.cut r.data.toList [10]).2.1.length := by unfold cut2; rw [bsOf_size]
            omega
          rw [hL] at g4
          simp only [parseGo] at g4
          refine use24 (by omega) ?_
          simp (maxSteps:=9^9) only [go_sem, Int.reduceLT, Int.reduceLE, Int.reduceEq, Int.reduceNe, Int.reduceAdd, Int.reduceSub, Int.reduceMul, Int.reduceToNat, Int.reduceNeg, Nat.reduceEqDiff, Nat.reduceLeDiff, Nat.reduceSub, Nat.reduceMul, Nat.reduceLT, Nat.reduceBEq, Nat.reduceAdd]
          generalize cut1 r ⟨#[10]⟩ = ln at *
          generalize cut2 r ⟨#[10]⟩ = rs at *
          refine use25 (by omega) (fun hp => ?_) (fun hp => ?_)
          · have hname : lineF ln.data.toList = (unhexL (ln.data.toList.drop 5)).bind fun k => if keyOk (bsOf k) then some (.inl (bsOf k)) else none := by
              unfold lineF
              rw [if_pos hp]
            simp (maxSteps:=9^9) only [go_sem, Int.reduceLT, Int.reduceLE, Int.reduceEq, Int.reduceNe, Int.reduceAdd, Int.reduceSub, Int.reduceMul, Int.reduceToNat, Int.reduceNeg, Nat.reduceEqDiff, Nat.reduceLeDiff, Nat.reduceSub, Nat.reduceMul, Nat.reduceLT, Nat.reduceBEq, Nat.reduceAdd]
            have hd : (bsOf (ln.data.toList.drop 5)).data.toList = ln.data.toList.drop 5 := by simp [bsOf]
            have hln := size_L ln
            refine use26 (by rw [bsOf_size, List.length_drop]; omega) (fun hu => ?_) (fun l hu => ?_)
            · simp (maxSteps:=9^9) only [go_sem, Int.reduceLT, Int.reduceLE, Int.reduceEq, Int.reduceNe, Int.reduceAdd, Int.reduceSub, Int.reduceMul, Int.reduceToNat, Int.reduceNeg, Nat.reduceEqDiff, Nat.reduceLeDiff, Nat.reduceSub, Nat.reduceMul, Nat.reduceLT, Nat.reduceBEq, Nat.reduceAdd]
              have hn : lineF ln.data.toList = none := by
                rw [hname, ← hd]
                show (unhexF _).bind _ = none
                rw [hu]
                rfl
              rw [hn] at g4
              rw [g4] at h
              exact h
            · simp (maxSteps:=9^9) only [go_sem, Int.reduceLT, Int.reduceLE, Int.reduceEq, Int.reduceNe, Int.reduceAdd, Int.reduceSub, Int.reduceMul, Int.reduceToNat, Int.reduceNeg, Nat.reduceEqDiff, Nat.reduceLeDiff, Nat.reduceSub, Nat.reduceMul, Nat.reduceLT, Nat.reduceBEq, Nat.reduceAdd]
              have hl : lineF ln.data.toList = if keyOk (bsOf l) then some (.inl (bsOf l)) else none := by
                rw [hname, ← hd]
                show (unhexF _).bind _ = _
                rw [hu]
                rfl
              cases hk : keyOk (bsOf l) with
              | false =>
                rw [hk] at hl
                rw [hl] at g4
                rw [g4] at h
                simp (maxSteps:=9^9) only [go_sem, Int.reduceLT, Int.reduceLE, Int.reduceEq, Int.reduceNe, Int.reduceAdd, Int.reduceSub, Int.reduceMul, Int.reduceToNat, Int.reduceNeg, Nat.reduceEqDiff, Nat.reduceLeDiff, Nat.reduceSub, Nat.reduceMul, Nat.reduceLT, Nat.reduceBEq, Nat.reduceAdd]
                exact h
              | true =>
                rw [hk] at hl
                rw [hl] at g4
                simp (maxSteps:=9^9) only [go_sem, Int.reduceLT, Int.reduceLE, Int.reduceEq, Int.reduceNe, Int.reduceAdd, Int.reduceSub, Int.reduceMul, Int.reduceToNat, Int.reduceNeg, Nat.reduceEqDiff, Nat.reduceLeDiff, Nat.reduceSub, Nat.reduceMul, Nat.reduceLT, Nat.reduceBEq, Nat.reduceAdd]
                simp only [if_true] at g4
                have ei : ((i + 1 : Nat) : Int) + 1 = ((i + 1 + 1 : Nat) : Int) := by omega
                rw [ei] at g4
                cases late with
                | true =>
                  rw [Bool.true_or] at g4
                  refine ⟨fun _ => by omega, fun _ => ?_⟩
                  rintro _ _ m9 hm9
                  rw [w64 (by omega)] at hm9
                  rw [hm9, ei]
                  refine lpE_intro (A := L9 s) (⟨rs, i + 1, ns ++ [bsOf l], cs, true⟩ : U9) ?_ ⟨⟨by show i + 1 + rs.size ≤ s.size; omega, by simp <;> omega, by simp <;> omega⟩, g4⟩ (by show rs.size < r.size; omega)
                  simp (maxSteps:=9^9) only [L9_I, go_sem, Int.reduceLT, Int.reduceLE, Int.reduceEq, Int.reduceNe, Int.reduceAdd, Int.reduceSub, Int.reduceMul, Int.reduceToNat, Int.reduceNeg, Nat.reduceEqDiff, Nat.reduceLeDiff, Nat.reduceSub, Nat.reduceMul, Nat.reduceLT, Nat.reduceBEq, Nat.reduceAdd]
                | false =>
                  rw [Bool.false_or] at g4
                  rintro _ _ _ rfl c3 hc3
                  refine ⟨fun _ => by omega, fun _ => ?_⟩
                  have hc3' : c3 = decide (0 < cs.length) := by rw [hc3]; exact decide_eq_decide.2 (by omega)
                  rw [← hc3'] at g4
                  rintro _ _ m9 hm9
                  rw [w64 (by omega)] at hm9
                  rw [hm9, ei]
                  refine lpE_intro (A := L9 s) (⟨rs, i + 1, ns ++ [bsOf l], cs, c3⟩ : U9) ?_ ⟨⟨by show i + 1 + rs.size ≤ s.size; omega, by simp <;> omega, by simp <;> omega⟩, g4⟩ (by show rs.size < r.size; omega)
                  simp (maxSteps:=9^9) only [L9_I, go_sem, Int.reduceLT, Int.reduceLE, Int.reduceEq, Int.reduceNe, Int.reduceAdd, Int.reduceSub, Int.reduceMul, Int.reduceToNat, Int.reduceNeg, Nat.reduceEqDiff, Nat.reduceLeDiff, Nat.reduceSub, Nat.reduceMul, Nat.reduceLT, Nat.reduceBEq, Nat.reduceAdd]
          · have hname : lineF ln.data.toList = (instrF ln.data.toList).map .inr := by
              unfold lineF
              rw [if_neg hp]
            simp (maxSteps:=9^9) only [go_sem, Int.reduceLT, Int.reduceLE, Int.reduceEq, Int.reduceNe, Int.reduceAdd, Int.reduceSub, Int.reduceMul, Int.reduceToNat, Int.reduceNeg, Nat.reduceEqDiff, Nat.reduceLeDiff, Nat.reduceSub, Nat.reduceMul, Nat.reduceLT, Nat.reduceBEq, Nat.reduceAdd]
            refine use27 (by omega) (fun hu a b => ?_) (fun j n hu => ?_)
            · simp (maxSteps:=9^9) only [go_sem, Int.reduceLT, Int.reduceLE, Int.reduceEq, Int.reduceNe, Int.reduceAdd, Int.reduceSub, Int.reduceMul, Int.reduceToNat, Int.reduceNeg, Nat.reduceEqDiff, Nat.reduceLeDiff, Nat.reduceSub, Nat.reduceMul, Nat.reduceLT, Nat.reduceBEq, Nat.reduceAdd]
              rw [hname, hu] at g4
              rw [g4] at h
              exact h
            · simp (maxSteps:=9^9) only [go_sem, Int.reduceLT, Int.reduceLE, Int.reduceEq, Int.reduceNe, Int.reduceAdd, Int.reduceSub, Int.reduceMul, Int.reduceToNat, Int.reduceNeg, Nat.reduceEqDiff, Nat.reduceLeDiff, Nat.reduceSub, Nat.reduceMul, Nat.reduceLT, Nat.reduceBEq, Nat.reduceAdd]
              rw [hname, hu] at g4
              simp only [Option.map_some] at g4
              have ei : ((i + 1 : Nat) : Int) + 1 = ((i + 1 + 1 : Nat) : Int) := by omega
              rw [ei] at g4
              refine ⟨fun _ => by omega, fun _ => ?_⟩
              rintro _ _ m9 hm9
              rw [w64 (by omega)] at hm9
              rw [hm9, ei]
              refine lpE_intro (A := L9 s) (⟨rs, i + 1, ns, cs ++ [(j, n)], late⟩ : U9) ?_ ⟨⟨by show i + 1 + rs.size ≤ s.size; omega, by simp <;> omega, by simp <;> omega⟩, g4⟩ (by show rs.size < r.size; omega)
              simp (maxSteps:=9^9) only [L9_I, go_sem, Int.reduceLT, Int.reduceLE, Int.reduceEq, Int.reduceNe, Int.reduceAdd, Int.reduceSub, Int.reduceMul, Int.reduceToNat, Int.reduceNeg, Nat.reduceEqDiff, Nat.reduceLeDiff, Nat.reduceSub, Nat.reduceMul, Nat.reduceLT, Nat.reduceBEq, Nat.reduceAdd]
        · subst h1
          rw [show linesL ByteArray.empty.data.toList = [] from rfl] at g4
          simp only [parseGo] at g4
          rw [g4] at h
          simp only [pOut] at h
          cases late with
          | true =>
            simp (maxSteps:=9^9) only [go_sem, Int.reduceLT, Int.reduceLE, Int.reduceEq, Int.reduceNe, Int.reduceAdd, Int.reduceSub, Int.reduceMul, Int.reduceToNat, Int.reduceNeg, Nat.reduceEqDiff, Nat.reduceLeDiff, Nat.reduceSub, Nat.reduceMul, Nat.reduceLT, Nat.reduceBEq, Nat.reduceAdd]
            rw [if_pos (.inl rfl)] at h
            exact h
          | false =>
            simp (maxSteps:=9^9) only [go_sem, Int.reduceLT, Int.reduceLE, Int.reduceEq, Int.reduceNe, Int.reduceAdd, Int.reduceSub, Int.reduceMul, Int.reduceToNat, Int.reduceNeg, Nat.reduceEqDiff, Nat.reduceLeDiff, Nat.reduceSub, Nat.reduceMul, Nat.reduceLT, Nat.reduceBEq, Nat.reduceAdd]
            refine use17 ?_
            cases hf : formP ns cs with
            | true =>
              rw [hf, if_neg (by simp)] at h
              simp (maxSteps:=9^9) only [go_sem, Int.reduceLT, Int.reduceLE, Int.reduceEq, Int.reduceNe, Int.reduceAdd, Int.reduceSub, Int.reduceMul, Int.reduceToNat, Int.reduceNeg, Nat.reduceEqDiff, Nat.reduceLeDiff, Nat.reduceSub, Nat.reduceMul, Nat.reduceLT, Nat.reduceBEq, Nat.reduceAdd]
              exact h
            | false =>
              rw [hf, if_pos (.inr rfl)] at h
              simp (maxSteps:=9^9) only [go_sem, Int.reduceLT, Int.reduceLE, Int.reduceEq, Int.reduceNe, Int.reduceAdd, Int.reduceSub, Int.reduceMul, Int.reduceToNat, Int.reduceNeg, Nat.reduceEqDiff, Nat.reduceLeDiff, Nat.reduceSub, Nat.reduceMul, Nat.reduceLT, Nat.reduceBEq, Nat.reduceAdd]
              exact h
  · exact h.elim
def C10 : Contract := fun args hp K => match args, hp with
 | [.str s], [] => (20000 < s.size → K (.tup [.agg [.nils, .nils], .int .i64 0, .int .i64 4]) []) ∧ (s.size ≤ 20000 → pOut K (parseGo (linesL s.data.toList) 1 [] [] false))
 | _, _ => False
theorem use28 {s : ByteArray} {K : SV → List SB → Prop} (hs : s.size ≤ 100000) (h : K (.own 0) [.row true 16 .str ((linesL s.data.toList).map bsOf)]) : C28 [.str s] [] K := ⟨hs, h⟩
theorem linesGo_len : ∀ (l acc : List UInt8), (linesGo l acc).length ≤ acc.length + l.length ∧ ∀ x ∈ linesGo l acc, x.length ≤ acc.length + l.length
 | [], acc => by
  simp only [linesGo]
  split
  ·simp
  ·rename_i h
   have := List.length_pos_iff.2 h
   simp
   omega
 | c :: r, acc => by
  simp only [linesGo]
  split
  ·have ih := linesGo_len r []
   simp only [List.length_nil, Nat.zero_add] at ih
   refine ⟨by simp only [List.length_cons]; omega, fun x hx => ?_⟩
   rcases List.mem_cons.1 hx with rfl | hx
   ·omega
   ·have := ih.2 x hx
    simp only [List.length_cons]
    omega
  ·have ih := linesGo_len r (acc ++ [c])
   simp only [List.length_append, List.length_cons, List.length_nil] at ih ⊢
   exact ⟨by omega, fun x hx => by have := ih.2 x hx; omega⟩
structure U10 where
 i : Nat
 ns : List ByteArray
 cs : List EvT.den
 late : Bool
def R10 (ll : List (List UInt8)) (g : U10) : Prop := (g.i ≤ ll.length ∧ g.ns.length ≤ g.i ∧ g.cs.length ≤ g.i) ∧ parseGo ll 1 [] [] false = parseGo (ll.drop g.i) (g.i + 1 : Nat) g.ns g.cs g.late
def L10 (ll : List (List UInt8)) : LoopAnn := { G := U10, I := fun g => ⟨[(2, .ptr 0 0), (5, .ptr 1 0), (6, .bool g.late), (7, .own 4), (19, .int .i64 ll.length), (20, .int .i64 g.i)], [.struct [.nils, .nils], .struct [.own 2, .own 3], .row true 16 .str g.ns, .row true 16 EvT g.cs, .row true 16 .str (ll.map bsOf)]⟩, R := fun _ g => R10 ll g, μ := fun g => ll.length - g.i }
theorem L10_I {ll : List (List UInt8)} (g : U10) : (L10 ll).I g = ⟨[(2, .ptr 0 0), (5, .ptr 1 0), (6, .bool g.late), (7, .own 4), (19, .int .i64 ll.length), (20, .int .i64 g.i)], [.struct [.nils, .nils], .struct [.own 2, .own 3], .row true 16 .str g.ns, .row true 16 EvT g.cs, .row true 16 .str (ll.map bsOf)]⟩ := rfl
theorem use29 {s : ByteArray} {K : SV → List SB → Prop} (hs : s.size ≤ 100000) (h1 : lineF s.data.toList = none → ∀ a b (t : ByteArray), t.size ≤ 100000 → K (.tup [.agg [.int .i64 a, .int .i64 b], .str t, .bool false]) [])
  (h2 : ∀ n, lineF s.data.toList = some (.inl n) → K (.tup [.agg [.int .i64 (-1), .int .i64 0], .str n, .bool true]) [])
  (h3 : ∀ x, lineF s.data.toList = some (.inr x) → 0 ≤ x.1 → K (.tup [.agg [.int .i64 x.1, .int .i64 x.2], .str ByteArray.empty, .bool true]) []) : C29 [.str s] [] K := ⟨hs, h1, h2, h3⟩
theorem s10 : Sound Tryd.prog 10 C10 := by
 refine sound_of_okF ok10 (.cons s28 (callable_of_okF ok28) (.cons s29 (callable_of_okF ok29) (.cons s18 (callable_of_okF ok18) .nil))) ?_
 intro args hp K h
 unfold C10 at h
 split at h
 ·rename_i s
  obtain ⟨ha, h⟩ := h
  have hmx := maxLen_val
  refine ⟨by simp, [(1, L10 (linesL s.data.toList))], ?_⟩
  simp (maxSteps:=9^9) only [a10, r10, go_sem, Int.reduceLT, Int.reduceLE, Int.reduceEq, Int.reduceNe, Int.reduceAdd, Int.reduceSub, Int.reduceMul, Int.reduceToNat, Int.reduceNeg, Nat.reduceEqDiff, Nat.reduceLeDiff, Nat.reduceSub, Nat.reduceMul, Nat.reduceLT, Nat.reduceBEq, Nat.reduceAdd]
  rintro _ _ rfl c hc
  refine swd hc (fun h0 => ?_) (fun h0 => ?_)
  ·exact ha (by omega)
  ·have h := h (by omega)
   refine use28 (by omega) ?_
   simp (maxSteps:=9^9) only [go_sem, Int.reduceLT, Int.reduceLE, Int.reduceEq, Int.reduceNe, Int.reduceAdd, Int.reduceSub, Int.reduceMul, Int.reduceToNat, Int.reduceNeg, Nat.reduceEqDiff, Nat.reduceLeDiff, Nat.reduceSub, Nat.reduceMul, Nat.reduceLT, Nat.reduceBEq, Nat.reduceAdd]
   have hll := linesGo_len s.data.toList []
   have hsz := size_L s
   rw [← hsz, List.length_nil, Nat.zero_add] at hll
   change (linesL s.data.toList).length ≤ s.size ∧ ∀ x ∈ linesL s.data.toList, x.length ≤ s.size at hll
   generalize linesL s.data.toList = ll at *
   have hlm : (ll.map bsOf).length = ll.length := List.length_map _
   rw [hlm]
   rintro _ _ _ rfl
   refine loop_intro (A := L10 ll) (⟨0, [], [], false⟩ : U10) ?_ ⟨⟨by simp, by simp, by simp⟩, rfl⟩ ?_
   ·simp (maxSteps:=9^9) only [go_sem, Int.reduceLT, Int.reduceLE, Int.reduceEq, Int.reduceNe, Int.reduceAdd, Int.reduceSub, Int.reduceMul, Int.reduceToNat, Int.reduceNeg, Nat.reduceEqDiff, Nat.reduceLeDiff, Nat.reduceSub, Nat.reduceMul, Nat.reduceLT, Nat.reduceBEq, Nat.reduceAdd]
    rfl
   ·rintro (⟨i, ns, cs, late⟩ : U10) (⟨⟨g1, g2, g3⟩, g4⟩ : R10 ll ⟨i, ns, cs, late⟩)
    simp only at g1 g2 g3 g4
    simp (maxSteps:=9^9) only [L10_I, go_sem, Int.reduceLT, Int.reduceLE, Int.reduceEq, Int.reduceNe, Int.reduceAdd, Int.reduceSub, Int.reduceMul, Int.reduceToNat, Int.reduceNeg, Nat.reduceEqDiff, Nat.reduceLeDiff, Nat.reduceSub, Nat.reduceMul, Nat.reduceLT, Nat.reduceBEq, Nat.reduceAdd]
    intro c2 hc2
    refine swd hc2 (fun h1 => ?_) (fun h1 => ?_)
    ·have h1 : i < ll.length := by omega
     refine nd_intro (by omega) ?_
     have hd : ll.drop i = ll[i] :: ll.drop (i + 1) := List.drop_eq_getElem_cons h1
     have he : elt .str (ll.map bsOf) i = bsOf ll[i] := by
      unfold elt
      simp [List.getD, h1]
     have hx := hll.2 ll[i] (List.getElem_mem h1)
     rw [hd] at g4
     simp only [parseGo] at g4
     rw [he]
     generalize ll[i] = x at *
     have hdx : (bsOf x).data.toList = x := by simp [bsOf]
     refine use29 (by rw [bsOf_size]; omega) (fun hu a b t ht => ?_) (fun n hu => ?_) (fun y hu hy => ?_) <;> rw [hdx] at hu <;> rw [hu] at g4
     ·rw [g4] at h
      simp (maxSteps:=9^9) only [go_sem, Int.reduceLT, Int.reduceLE, Int.reduceEq, Int.reduceNe, Int.reduceAdd, Int.reduceSub, Int.reduceMul, Int.reduceToNat, Int.reduceNeg, Nat.reduceEqDiff, Nat.reduceLeDiff, Nat.reduceSub, Nat.reduceMul, Nat.reduceLT, Nat.reduceBEq, Nat.reduceAdd]
      rintro _ _ m9 hm9
      rw [w64 (by omega)] at hm9
      rw [hm9]
      exact h
     ·simp only at g4
      have ei : ((i + 1 : Nat) : Int) + 1 = ((i + 1 + 1 : Nat) : Int) := by omega
      rw [ei] at g4
      simp (maxSteps:=9^9) only [go_sem, Int.reduceLT, Int.reduceLE, Int.reduceEq, Int.reduceNe, Int.reduceAdd, Int.reduceSub, Int.reduceMul, Int.reduceToNat, Int.reduceNeg, Nat.reduceEqDiff, Nat.reduceLeDiff, Nat.reduceSub, Nat.reduceMul, Nat.reduceLT, Nat.reduceBEq, Nat.reduceAdd]
      cases late with
      | true =>
       rw [Bool.true_or] at g4
       refine ⟨fun _ => by omega, fun _ => ?_⟩
       rintro _ _ m9 hm9
       rw [w64 (by omega)] at hm9
       rw [hm9, show (i : Int) + 1 = ((i + 1 : Nat) : Int) by omega]
       refine lpE_intro (A := L10 ll) (⟨i + 1, ns ++ [n], cs, true⟩ : U10) ?_ ⟨⟨by show i + 1 ≤ ll.length; omega, by simp <;> omega, by simp <;> omega⟩, g4⟩ (by show ll.length - (i + 1) < ll.length - i; omega)
       simp (maxSteps:=9^9) only [L10_I, go_sem, Int.reduceLT, Int.reduceLE, Int.reduceEq, Int.reduceNe, Int.reduceAdd, Int.reduceSub, Int.reduceMul, Int.reduceToNat, Int.reduceNeg, Nat.reduceEqDiff, Nat.reduceLeDiff, Nat.reduceSub, Nat.reduceMul, Nat.reduceLT, Nat.reduceBEq, Nat.reduceAdd]
      | false =>
       rw [Bool.false_or] at g4
       rintro _ _ _ rfl c3 hc3
       refine ⟨fun _ => by omega, fun _ => ?_⟩
       have hc3' : c3 = decide (0 < cs.length) := by rw [hc3]; exact decide_eq_decide.2 (by omega)
       rw [← hc3'] at g4
       rintro _ _ m9 hm9
       rw [w64 (by omega)] at hm9
       rw [hm9, show (i : Int) + 1 = ((i + 1 : Nat) : Int) by omega]
       refine lpE_intro (A := L10 ll) (⟨i + 1, ns ++ [n], cs, c3⟩ : U10) ?_ ⟨⟨by show i + 1 ≤ ll.length; omega, by simp <;> omega, by simp <;> omega⟩, g4⟩ (by show ll.length - (i + 1) < ll.length - i; omega)
       simp (maxSteps:=9^9) only [L10_I, go_sem, Int.reduceLT, Int.reduceLE, Int.reduceEq, Int.reduceNe, Int.reduceAdd, Int.reduceSub, Int.reduceMul, Int.reduceToNat, Int.reduceNeg, Nat.reduceEqDiff, Nat.reduceLeDiff, Nat.reduceSub, Nat.reduceMul, Nat.reduceLT, Nat.reduceBEq, Nat.reduceAdd]
     ·simp only at g4
      have ei : ((i + 1 : Nat) : Int) + 1 = ((i + 1 + 1 : Nat) : Int) := by omega
      rw [ei] at g4
      simp (maxSteps:=9^9) only [go_sem, Int.reduceLT, Int.reduceLE, Int.reduceEq, Int.reduceNe, Int.reduceAdd, Int.reduceSub, Int.reduceMul, Int.reduceToNat, Int.reduceNeg, Nat.reduceEqDiff, Nat.reduceLeDiff, Nat.reduceSub, Nat.reduceMul, Nat.reduceLT, Nat.reduceBEq, Nat.reduceAdd]
      intro c3 hc3
      refine swd hc3 (fun h9 => by omega) (fun _ => ?_)
      refine ⟨fun _ => by omega, fun _ => ?_⟩
      rintro _ _ m9 hm9
      rw [w64 (by omega)] at hm9
      rw [hm9, show (i : Int) + 1 = ((i + 1 : Nat) : Int) by omega]
      refine lpE_intro (A := L10 ll) (⟨i + 1, ns, cs ++ [y], late⟩ : U10) ?_ ⟨⟨by show i + 1 ≤ ll.length; omega, by simp <;> omega, by simp <;> omega⟩, g4⟩ (by show ll.length - (i + 1) < ll.length - i; omega)
      simp (maxSteps:=9^9) only [L10_I, go_sem, Int.reduceLT, Int.reduceLE, Int.reduceEq, Int.reduceNe, Int.reduceAdd, Int.reduceSub, Int.reduceMul, Int.reduceToNat, Int.reduceNeg, Nat.reduceEqDiff, Nat.reduceLeDiff, Nat.reduceSub, Nat.reduceMul, Nat.reduceLT, Nat.reduceBEq, Nat.reduceAdd]
    ·rw [List.drop_of_length_le (by omega)] at g4
     simp only [parseGo] at g4
     rw [g4] at h
     simp only [pOut] at h
     cases late with
     | true =>
      simp (maxSteps:=9^9) only [go_sem, Int.reduceLT, Int.reduceLE, Int.reduceEq, Int.reduceNe, Int.reduceAdd, Int.reduceSub, Int.reduceMul, Int.reduceToNat, Int.reduceNeg, Nat.reduceEqDiff, Nat.reduceLeDiff, Nat.reduceSub, Nat.reduceMul, Nat.reduceLT, Nat.reduceBEq, Nat.reduceAdd]
      rw [if_pos (.inl rfl)] at h
      exact h
     | false =>
      simp (maxSteps:=9^9) only [go_sem, Int.reduceLT, Int.reduceLE, Int.reduceEq, Int.reduceNe, Int.reduceAdd, Int.reduceSub, Int.reduceMul, Int.reduceToNat, Int.reduceNeg, Nat.reduceEqDiff, Nat.reduceLeDiff, Nat.reduceSub, Nat.reduceMul, Nat.reduceLT, Nat.reduceBEq, Nat.reduceAdd]
      refine use18 ?_
      cases hf : formP ns cs with
      | true =>
       rw [hf, if_neg (by simp)] at h
       simp (maxSteps:=9^9) only [go_sem, Int.reduceLT, Int.reduceLE, Int.reduceEq, Int.reduceNe, Int.reduceAdd, Int.reduceSub, Int.reduceMul, Int.reduceToNat, Int.reduceNeg, Nat.reduceEqDiff, Nat.reduceLeDiff, Nat.reduceSub, Nat.reduceMul, Nat.reduceLT, Nat.reduceBEq, Nat.reduceAdd]
       exact h
      | false =>
       rw [hf, if_pos (.inr rfl)] at h
       simp (maxSteps:=9^9) only [go_sem, Int.reduceLT, Int.reduceLE, Int.reduceEq, Int.reduceNe, Int.reduceAdd, Int.reduceSub, Int.reduceMul, Int.reduceToNat, Int.reduceNeg, Nat.reduceEqDiff, Nat.reduceLeDiff, Nat.reduceSub, Nat.reduceMul, Nat.reduceLT, Nat.reduceBEq, Nat.reduceAdd]
       exact h
 ·exact h.elim
end Go.V
