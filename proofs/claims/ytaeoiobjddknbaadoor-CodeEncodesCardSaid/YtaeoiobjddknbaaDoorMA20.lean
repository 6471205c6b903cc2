/- A part of the proof layer, or functions of the given program in it: contracts and their proofs. -/
import Derived.Test.YtaeoiobjddknbaaDoorMA71
namespace Go.V
open Go.Proofs
set_option maxRecDepth 100000
set_option linter.unusedSimpArgs false
set_option linter.unnecessarySimpa false
set_option linter.unusedVariables false
/-! ### numbers as bytes -/
def klen (n : Nat) : Nat := if n < 256 then 1 else if n < 65536 then 2 else if n < 16777216 then 3 else if n < 4294967296 then 4 else if n < 1099511627776 then 5 else if n < 281474976710656 then 6 else if n < 72057594037927936 then 7 else 8
def beB (k n : Nat) : List UInt8 := (List.range k).map fun j => UInt8.ofNat (n / 256 ^ (k - 1 - j))
def numB (n : Int) : List UInt8 := if n < 248 then [UInt8.ofNat n.toNat] else UInt8.ofNat (247 + klen n.toNat) :: beB (klen n.toNat) n.toNat
def textB (s : ByteArray) : List UInt8 := numB s.size ++ s.data.toList
def zig (n : Int) : Int := if 0 ≤ n then 2 * n else -2 * n - 1
def unz (n : Int) : Int := if n % 2 = 0 then n / 2 else -(n / 2) - 1
def beN (l : List UInt8) : Nat := l.foldl (fun a b => a * 256 + b.toNat) 0
theorem klen_pos (n : Nat) : 1 ≤ klen n ∧ klen n ≤ 8 := by unfold klen; (repeat' split) <;> omega
theorem klen_of {n k : Int} (h : (k = 1 ∧ n < 256) ∨ (k = 2 ∧ 256 ≤ n ∧ n < 65536) ∨ (k = 3 ∧ 65536 ≤ n ∧ n < 16777216) ∨ (k = 4 ∧ 16777216 ≤ n ∧ n < 4294967296) ∨ (k = 5 ∧ 4294967296 ≤ n ∧ n < 1099511627776) ∨
  (k = 6 ∧ 1099511627776 ≤ n ∧ n < 281474976710656) ∨ (k = 7 ∧ 281474976710656 ≤ n ∧ n < 72057594037927936) ∨ (k = 8 ∧ 72057594037927936 ≤ n)) : (klen n.toNat : Int) = k := by
 unfold klen
 rcases h with h | h | h | h | h | h | h | h <;> (repeat' split) <;> omega
theorem klen_lo {n : Int} (h : 256 ≤ n) : ∀ j : Nat, j + 1 < klen n.toNat → (256 : Int) ^ (j + 1) ≤ n := by
 intro j hj
 have h8 := (klen_pos n.toNat).2
 unfold klen at hj
 have : j = 0 ∨ j = 1 ∨ j = 2 ∨ j = 3 ∨ j = 4 ∨ j = 5 ∨ j = 6 := by unfold klen at h8; omega
 rcases this with rfl | rfl | rfl | rfl | rfl | rfl | rfl <;> simp <;> (revert hj; (repeat' split) <;> omega)
theorem klen_hi {n : Int} (h : n ≤ 18446744073709551615) : n < (256 : Int) ^ (klen n.toNat) := by
 unfold klen
 (repeat' split) <;> simp <;> omega
theorem beB_length (k n : Nat) : (beB k n).length = k := by simp [beB]
theorem beB_get {k n j : Nat} (h : j < k) : (beB k n)[j]? = some (UInt8.ofNat (n / 256 ^ (k - 1 - j))) := by simp [beB, h]
theorem numB_length (n : Int) : 1 ≤ (numB n).length ∧ (numB n).length ≤ 9 := by
 unfold numB
 split
 ·simp
 ·have := klen_pos n.toNat
  simp [beB_length]; omega
theorem textB_length (s : ByteArray) : (textB s).length ≤ s.size + 9 := by
 have := (numB_length s.size).2
 have h : s.data.toList.length = s.size := by rw [Array.length_toList]; rfl
 simp only [textB, List.length_append, h]; omega
def lenT : ByteArray := ⟨#[0, 1, 2, 2, 3, 3, 3, 3, 4, 4, 4, 4, 4, 4, 4, 4, 5, 5, 5, 5, 5, 5, 5, 5, 5, 5, 5, 5, 5, 5, 5, 5, 6, 6, 6, 6, 6, 6, 6, 6, 6, 6, 6, 6, 6, 6, 6, 6, 6, 6, 6, 6, 6, 6, 6, 6, 6, 6, 6, 6, 6, 6, 6, 6, 7, 7, 7, 7, 7, 7, 7, 7, 7, 7, 7, 7, 7, 7, 7, 7, 7, 7, 7, 7, 7, 7, 7, 7, 7, 7, 7, 7, 7, 7, 7, 7, 7, 7, 7, 7, 7, 7, 7, 7, 7, 7, 7, 7, 7, 7, 7, 7, 7, 7, 7, 7, 7, 7, 7, 7, 7, 7, 7, 7, 7, 7, 7, 7, 8, 8, 8, 8, 8, 8, 8, 8, 8, 8, 8, 8, 8, 8, 8, 8, 8, 8, 8, 8, 8, 8, 8, 8, 8, 8, 8, 8, 8, 8, 8, 8, 8, 8, 8, 8, 8, 8, 8, 8, 8, 8, 8, 8, 8, 8, 8, 8, 8, 8, 8, 8, 8, 8, 8, 8, 8, 8, 8, 8, 8, 8, 8, 8, 8, 8, 8, 8, 8, 8, 8, 8, 8, 8, 8, 8, 8, 8, 8, 8, 8, 8, 8, 8, 8, 8, 8, 8, 8, 8, 8, 8, 8, 8, 8, 8, 8, 8, 8, 8, 8, 8, 8, 8, 8, 8, 8, 8, 8, 8, 8, 8, 8, 8, 8, 8, 8, 8, 8, 8, 8, 8, 8, 8, 8, 8, 8, 8]⟩
def lenL : List UInt8 := lenT.data.toList
theorem lenL_get : ∀ i : Fin 256, 1 ≤ i.val → 1 ≤ ((lenL.getD i.val 0).toNat) ∧ (lenL.getD i.val 0).toNat ≤ 8 := by decide +kernel
theorem fd32 {n : Int} : n.fdiv (2 ^ min 32 64) = n / 4294967296 := by rw [Int.fdiv_eq_ediv_of_nonneg _ (by decide)]; rfl
theorem fd16 {n : Int} : n.fdiv (2 ^ min 16 64) = n / 65536 := by rw [Int.fdiv_eq_ediv_of_nonneg _ (by decide)]; rfl
theorem fd8 {n : Int} : n.fdiv (2 ^ min 8 64) = n / 256 := by rw [Int.fdiv_eq_ediv_of_nonneg _ (by decide)]; rfl
theorem len_tail {K : SV → List SB → Prop} {x L : Int} (hx : 1 ≤ x ∧ x ≤ 255) (hL : 0 ≤ L ∧ L ≤ 56) (h : ∀ t : Int, 1 ≤ t → t ≤ 8 → K (.int .i64 (L + t)) []) :
  inR .u64 x → ∀ m2 : Int, m2 = IntKind.u8.wrap x → nd (0 ≤ m2 ∧ m2 < (lenT.size : Int)) (∀ m3 : Int, m3 = ((lenL.getD m2.toNat 0).toNat : Int) → inR .u8 m3 → ∀ m4 : Int, m4 = IntKind.i64.wrap m3 → inR .i64 L → inR .i64 m4 → ∀ m5 : Int, m5 = IntKind.i64.wrap (L + m4) → K (.int .i64 m5) []) := by
 rintro _ m2 hm2
 rw [wu8 (by omega)] at hm2
 subst hm2
 refine nd_intro ⟨by omega, ?_⟩ ?_
 ·have : lenT.size = 256 := by decide +kernel
  rw [this]; omega
 ·rintro m3 hm3 _ m4 hm4 _ _ m5 hm5
  obtain ⟨i, rfl⟩ := Int.eq_ofNat_of_zero_le (show 0 ≤ m2 by omega)
  have := lenL_get ⟨i, by omega⟩ (by show 1 ≤ i; omega)
  simp only [Int.toNat_natCast] at hm3
  simp only at this
  rw [w64 (by omega)] at hm4
  subst hm4
  rw [w64 (by omega)] at hm5
  subst hm5
  exact h _ (by omega) (by omega)
def C69 : Contract := fun args hp K => match args, hp with
 | [.int .u64 n], [] => 1 ≤ n ∧ ∀ l : Int, 1 ≤ l → l ≤ 64 → (l + 7) / 8 = klen n.toNat → K (.int .i64 l) []
 | _, _ => False
theorem s69 : Sound Tryd.prog 69 C69 := by
 refine sound_of_okF ok69 .nil ?_
 intro args hp K h
 unfold C69 at h
 split at h
 ·rename_i n
  obtain ⟨hn, h⟩ := h
  refine ⟨by simp, [], ?_⟩
  simp (maxSteps:=9^9) only [a69, r69, go_sem, Int.reduceLT, Int.reduceLE, Int.reduceEq, Int.reduceNe, Int.reduceAdd, Int.reduceSub, Int.reduceMul, Int.reduceToNat, Int.reduceNeg, Nat.reduceEqDiff, Nat.reduceLeDiff, Nat.reduceSub, Nat.reduceMul, Nat.reduceLT, Nat.reduceBEq, Nat.reduceAdd]
  have fin : ∀ L : Int, L % 8 = 0 → 0 ≤ L → L ≤ 56 → (klen n.toNat : Int) = L / 8 + 1 → ∀ t : Int, 1 ≤ t → t ≤ 8 → K (.int .i64 (L + t)) [] :=
   fun L h1 h2 h3 h4 t h5 h6 => h _ (by omega) (by omega) (by omega)
  rintro c1 hc1
  refine sw_intro (fun h1 => ?_) (fun h1 => ?_) <;> simp only [hc1, decide_eq_true_eq, decide_eq_false_iff_not] at h1
  ·rintro hn2 _ m1 rfl c2 hc2
   rw [inR_u64] at hn2
   rw [fd32] at hc2 ⊢
   refine sw_intro (fun h2 => ?_) (fun h2 => ?_) <;> simp only [hc2, decide_eq_true_eq, decide_eq_false_iff_not] at h2
   ·rintro _ _ m2 rfl _ _ L1 hL1 c3 hc3
    rw [w64 (by omega)] at hL1
    subst hL1
    rw [fd16] at hc3 ⊢
    refine sw_intro (fun h3 => ?_) (fun h3 => ?_) <;> simp only [hc3, decide_eq_true_eq, decide_eq_false_iff_not] at h3
    ·rintro _ _ m3 rfl _ _ L2 hL2
     rw [w64 (by omega)] at hL2
     subst hL2
     rw [fd8]
     refine len_tail ?_ ?_ (fin _ ?_ ?_ ?_ ?_) <;> first | omega | (refine klen_of ?_; omega)
    ·refine len_tail ?_ ?_ (fin _ ?_ ?_ ?_ ?_) <;> first | omega | (refine klen_of ?_; omega)
   ·rintro c3 hc3
    refine sw_intro (fun h3 => ?_) (fun h3 => ?_) <;> simp only [hc3, decide_eq_true_eq, decide_eq_false_iff_not] at h3
    ·rintro _ _ m3 rfl _ _ L2 hL2
     rw [w64 (by omega)] at hL2
     subst hL2
     rw [fd8]
     refine len_tail ?_ ?_ (fin _ ?_ ?_ ?_ ?_) <;> first | omega | (refine klen_of ?_; omega)
    ·refine len_tail ?_ ?_ (fin _ ?_ ?_ ?_ ?_) <;> first | omega | (refine klen_of ?_; omega)
  ·rintro c2 hc2
   refine sw_intro (fun h2 => ?_) (fun h2 => ?_) <;> simp only [hc2, decide_eq_true_eq, decide_eq_false_iff_not] at h2
   ·rintro _ _ m2 rfl _ _ L1 hL1 c3 hc3
    rw [w64 (by omega)] at hL1
    subst hL1
    rw [fd16] at hc3 ⊢
    refine sw_intro (fun h3 => ?_) (fun h3 => ?_) <;> simp only [hc3, decide_eq_true_eq, decide_eq_false_iff_not] at h3
    ·rintro _ _ m3 rfl _ _ L2 hL2
     rw [w64 (by omega)] at hL2
     subst hL2
     rw [fd8]
     refine len_tail ?_ ?_ (fin _ ?_ ?_ ?_ ?_) <;> first | omega | (refine klen_of ?_; omega)
    ·refine len_tail ?_ ?_ (fin _ ?_ ?_ ?_ ?_) <;> first | omega | (refine klen_of ?_; omega)
   ·rintro c3 hc3
    refine sw_intro (fun h3 => ?_) (fun h3 => ?_) <;> simp only [hc3, decide_eq_true_eq, decide_eq_false_iff_not] at h3
    ·rintro _ _ m3 rfl _ _ L2 hL2
     rw [w64 (by omega)] at hL2
     subst hL2
     rw [fd8]
     refine len_tail ?_ ?_ (fin _ ?_ ?_ ?_ ?_) <;> first | omega | (refine klen_of ?_; omega)
    ·refine len_tail ?_ ?_ (fin _ ?_ ?_ ?_ ?_) <;> first | omega | (refine klen_of ?_; omega)
 ·exact h.elim
def wrH (b : Bool) (bs : List UInt8) : List SB := [.struct [.own 1], .row b 1 .byte bs]
def onWr (hp : List SB) (k : List UInt8 → Prop) : Prop := ∃ bs, hp = wrH false bs ∧ k bs
@[go_sem] theorem onWr_eq {bs k} : onWr [.struct [.own 1], .row false 1 .byte (no_index bs)] k = k bs := by
 apply propext; constructor
 ·rintro ⟨bs', h, hk⟩
  unfold wrH at h
  cases h
  exact hk
 ·exact fun h => ⟨bs, rfl, h⟩
def C42 : Contract := fun args hp K => match args, hp with
 | [], [] => K (.ptr 0 0) (wrH true [])
 | _, _ => False
theorem s42 : Sound Tryd.prog 42 C42 := by
 refine sound_of_okF ok42 .nil ?_
 intro args hp K h
 unfold C42 at h
 split at h
 ·refine ⟨by simp, [], ?_⟩
  simp (maxSteps:=9^9) only [a42, r42, go_sem, Int.reduceLT, Int.reduceLE, Int.reduceEq, Int.reduceNe, Int.reduceAdd, Int.reduceSub, Int.reduceMul, Int.reduceToNat, Int.reduceNeg, Nat.reduceEqDiff, Nat.reduceLeDiff, Nat.reduceSub, Nat.reduceMul, Nat.reduceLT, Nat.reduceBEq, Nat.reduceAdd]
  exact h
 ·exact h.elim
theorem u8wrap (x : Int) : IntKind.u8.wrap x = x % 256 := by
 simp [IntKind.wrap, IntKind.signed, IntKind.bits]
theorem byte_at {n : Int} (h : 0 ≤ n) {j : Nat} : UInt8.ofNat (IntKind.u8.wrap (n.fdiv (2 ^ (8 * j)))).toNat = UInt8.ofNat (n.toNat / 256 ^ j) := by
 obtain ⟨a, rfl⟩ := Int.eq_ofNat_of_zero_le h
 have e : (2 : Int) ^ (8 * j) = ((256 ^ j : Nat) : Int) := by rw [Int.pow_mul]; simp
 rw [u8wrap, e, Int.fdiv_eq_ediv_of_nonneg _ (Int.natCast_nonneg _), Int.toNat_natCast, ← Int.natCast_ediv]
 have e2 : ((((a / 256 ^ j : Nat) : Int)) % 256).toNat = (a / 256 ^ j) % 256 := by omega
 rw [e2]
 apply UInt8.toNat_inj.1
 simp
def C43 : Contract := fun args hp K => match args with
 | [.ptr 0 0, .int .u64 n] => onWr hp fun bs => bs.length ≤ 70368744177664 ∧ K (.tup []) (wrH true (bs ++ numB n))
 | _ => False
def L43 (bs : List UInt8) (n : Int) : LoopAnn := cntA (fun i => ⟨[(0, .ptr 0 0), (1, .int .u64 n), (5, .int .i64 (klen n.toNat - 1 - i))], [.struct [.own 1], .row true 1 .byte (bs ++ UInt8.ofNat (247 + klen n.toNat) :: (beB (klen n.toNat) n.toNat).take i)]⟩) (klen n.toNat)
theorem s43 : Sound Tryd.prog 43 C43 := by
 refine sound_of_okF ok43 (.cons s69 (callable_of_okF ok69) .nil) ?_
 intro args hp K h
 unfold C43 at h
 split at h
 ·rename_i n
  obtain ⟨bs, rfl, hb, h⟩ := h
  refine ⟨by simp, [(1, L43 bs n)], ?_⟩
  unfold wrH at h ⊢
  simp (maxSteps:=9^9) only [a43, r43, C69, go_sem, Int.reduceLT, Int.reduceLE, Int.reduceEq, Int.reduceNe, Int.reduceAdd, Int.reduceSub, Int.reduceMul, Int.reduceToNat, Int.reduceNeg, Nat.reduceEqDiff, Nat.reduceLeDiff, Nat.reduceSub, Nat.reduceMul, Nat.reduceLT, Nat.reduceBEq, Nat.reduceAdd]
  rintro c rfl
  refine sw_intro (fun h1 => ?_) (fun h1 => ?_) <;> simp only [decide_eq_true_eq, decide_eq_false_iff_not] at h1
  ·rintro hi m hm
   rw [inR_u64] at hi
   rw [wu8 (by omega)] at hm
   subst hm
   refine ⟨fun _ => by omega, fun _ => ?_⟩
   have e : numB m = [UInt8.ofNat m.toNat] := by unfold numB; rw [if_pos h1]
   rw [e] at h
   exact h
  ·have hk := klen_pos n.toNat
   have hn0 : 0 ≤ n := by omega
   have e : numB n = UInt8.ofNat (247 + klen n.toNat) :: beB (klen n.toNat) n.toNat := by unfold numB; rw [if_neg h1]
   rw [e] at h
   refine ⟨by omega, ?_⟩
   rintro l hl1 hl2 hl _ _ m hm _ _ m1 hm1
   rw [w64 (by omega)] at hm
   subst hm
   rw [Int.tdiv_eq_ediv_of_nonneg (by omega), w64 (by omega), hl] at hm1
   subst hm1
   rintro _ _ m2 hm2 _ m3 hm3
   rw [w64 (by omega)] at hm2
   subst hm2
   rw [wu8 (by omega)] at hm3
   subst hm3
   refine ⟨fun _ => by omega, fun _ _ _ m4 hm4 => ?_⟩
   rw [w64 (by omega)] at hm4
   subst hm4
   have e2 : ((247 : Int) + (klen n.toNat : Int)).toNat = 247 + klen n.toNat := by omega
   rw [e2]
   refine loop_intro (A := L43 bs n) (0 : Nat) ?_ (Nat.zero_le _) ?_
   ·simp (maxSteps:=9^9) only [L43, cntA_I, go_sem, Int.reduceLT, Int.reduceLE, Int.reduceEq, Int.reduceNe, Int.reduceAdd, Int.reduceSub, Int.reduceMul, Int.reduceToNat, Int.reduceNeg, Nat.reduceEqDiff, Nat.reduceLeDiff, Nat.reduceSub, Nat.reduceMul, Nat.reduceLT, Nat.reduceBEq, Nat.reduceAdd]
    rw [show ((klen n.toNat : Int) - 1 - ((0 : Nat) : Int)) = (klen n.toNat : Int) - 1 by omega]
    rfl
   ·intro (i : Nat) (hi : i ≤ klen n.toNat)
    simp (maxSteps:=9^9) only [L43, cntA_I, go_sem, Int.reduceLT, Int.reduceLE, Int.reduceEq, Int.reduceNe, Int.reduceAdd, Int.reduceSub, Int.reduceMul, Int.reduceToNat, Int.reduceNeg, Nat.reduceEqDiff, Nat.reduceLeDiff, Nat.reduceSub, Nat.reduceMul, Nat.reduceLT, Nat.reduceBEq, Nat.reduceAdd]
    rintro c rfl
    refine sw_intro (fun hc => ?_) (fun hc => ?_) <;> simp only [decide_eq_true_eq, decide_eq_false_iff_not] at hc
    ·have hlt : i < klen n.toNat := by omega
     rintro _ _ m hm
     rw [w64 (by omega)] at hm
     subst hm
     refine ⟨by omega, fun _ _ _ m1 hm1 => ?_⟩
     have hx : (8 * ((klen n.toNat : Int) - 1 - i)).toNat = 8 * (klen n.toNat - 1 - i) := by omega
     rw [hx, Nat.min_eq_left (by omega)] at hm1
     rintro _ m2 hm2
     have hb2 : UInt8.ofNat m2.toNat = UInt8.ofNat (n.toNat / 256 ^ (klen n.toNat - 1 - i)) := by
      rw [hm2, hm1, byte_at hn0]
     have hlen : (bs ++ UInt8.ofNat (247 + klen n.toNat) :: List.take i (beB (klen n.toNat) n.toNat)).length = bs.length + (1 + i) := by
      simp [beB_length]; omega
     refine ⟨fun _ => by rw [hlen]; omega, fun _ _ _ m3 hm3 => ?_⟩
     rw [w64 (by omega)] at hm3
     subst hm3
     refine cntA_next hlt ?_
     simp (maxSteps:=9^9) only [go_sem, Int.reduceLT, Int.reduceLE, Int.reduceEq, Int.reduceNe, Int.reduceAdd, Int.reduceSub, Int.reduceMul, Int.reduceToNat, Int.reduceNeg, Nat.reduceEqDiff, Nat.reduceLeDiff, Nat.reduceSub, Nat.reduceMul, Nat.reduceLT, Nat.reduceBEq, Nat.reduceAdd]
     rw [hb2, List.append_assoc, List.cons_append, take_snoc (beB_get hlt), show ((klen n.toNat : Int) - 1 - ((i + 1 : Nat) : Int)) = (klen n.toNat : Int) - 1 - i - 1 by omega]
    ·have : i = klen n.toNat := by omega
     subst this
     rw [List.take_of_length_le (by rw [beB_length]; exact Nat.le_refl _)]
     exact h
 ·exact h.elim
def C46 : Contract := fun args hp K => match args with
 | [.ptr 0 0] => onWr hp fun bs => K (.own 2) (wrH false bs ++ [.row true 1 .byte bs])
 | _ => False
theorem s46 : Sound Tryd.prog 46 C46 := by
 refine sound_of_okF ok46 .nil ?_
 intro args hp K h
 unfold C46 at h
 split at h
 ·obtain ⟨bs, rfl, h⟩ := h
  refine ⟨by simp, [], ?_⟩
  unfold wrH at h ⊢
  simp (maxSteps:=9^9) only [a46, r46, go_sem, Int.reduceLT, Int.reduceLE, Int.reduceEq, Int.reduceNe, Int.reduceAdd, Int.reduceSub, Int.reduceMul, Int.reduceToNat, Int.reduceNeg, Nat.reduceEqDiff, Nat.reduceLeDiff, Nat.reduceSub, Nat.reduceMul, Nat.reduceLT, Nat.reduceBEq, Nat.reduceAdd]
  exact ⟨id, fun _ => h⟩
 ·exact h.elim
end Go.V
namespace Go.V
open Go.Proofs
set_option maxRecDepth 100000
set_option linter.unusedSimpArgs false
set_option linter.unnecessarySimpa false
set_option linter.unusedVariables false
def C44 : Contract := fun args hp K => match args with
 | [.ptr 0 0, .str s] => onWr hp fun bs => bs.length + s.size ≤ 70368744177664 ∧ K (.tup []) (wrH true (bs ++ textB s))
 | _ => False
theorem s44 : Sound Tryd.prog 44 C44 := by
 refine sound_of_okF ok44 (.cons s43 (callable_of_okF ok43) .nil) ?_
 intro args hp K h
 unfold C44 at h
 split at h
 ·rename_i s
  obtain ⟨bs, rfl, hb, h⟩ := h
  refine ⟨by simp, [], ?_⟩
  unfold wrH at h ⊢
  simp (maxSteps:=9^9) only [a44, r44, C43, wrH, go_sem, Int.reduceLT, Int.reduceLE, Int.reduceEq, Int.reduceNe, Int.reduceAdd, Int.reduceSub, Int.reduceMul, Int.reduceToNat, Int.reduceNeg, Nat.reduceEqDiff, Nat.reduceLeDiff, Nat.reduceSub, Nat.reduceMul, Nat.reduceLT, Nat.reduceBEq, Nat.reduceAdd]
  rintro _ m rfl _ m1 hm1
  rw [wu64 (by omega)] at hm1
  subst hm1
  have hl := (numB_length s.size).2
  have hs : s.data.toList.length = s.size := by rw [Array.length_toList]; rfl
  refine ⟨by omega, fun _ _ => ?_, fun _ => ?_⟩
  ·rw [hs, List.length_append]; omega
  ·rw [List.append_assoc]; exact h
 ·exact h.elim
theorem u64wrap (x : Int) : IntKind.u64.wrap x = x % 18446744073709551616 := by
 simp [IntKind.wrap, IntKind.signed, IntKind.bits]
theorem xor_zero {k : IntKind} {a : Int} (h : inR k a) : bitsI .xor k a 0 = a := by
 have h0 : BitVec.ofInt k.bits 0 = 0#k.bits := by simp
 have e : bitsI .xor k a 0 = k.wrap ((BitVec.ofInt k.bits a).toNat : Int) := by simp [bitsI]
 rw [e]
 have := wrap_in h
 rw [BitVec.toNat_ofInt]
 cases k <;> simp [IntKind.wrap, IntKind.signed, IntKind.bits] at this ⊢ <;> omega
theorem xor_ones {a : Int} (h : 0 ≤ a ∧ a ≤ 18446744073709551615) : bitsI .xor .u64 a 18446744073709551615 = 18446744073709551615 - a := by
 have h0 : BitVec.ofInt 64 18446744073709551615 = BitVec.allOnes 64 := by decide
 have e : bitsI .xor .u64 a 18446744073709551615 = IntKind.u64.wrap ((~~~ (BitVec.ofInt 64 a)).toNat : Int) := by
  show IntKind.u64.wrap ((BitVec.ofInt 64 a ^^^ BitVec.ofInt 64 18446744073709551615).toNat : Int) = _
  rw [h0, BitVec.xor_allOnes]
 rw [e, BitVec.toNat_not, BitVec.toNat_ofInt, u64wrap]
 omega
theorem zig_bits {n : Int} (hn : -9223372036854775808 ≤ n ∧ n ≤ 9223372036854775807) :
  bitsI .xor .u64 (IntKind.u64.wrap (IntKind.u64.wrap n * 2 ^ min 1 64)) (IntKind.u64.wrap (n.fdiv (2 ^ min 63 64))) = zig n := by
 have e1 : (2 : Int) ^ min 1 64 = 2 := rfl
 have e2 : (2 : Int) ^ min 63 64 = 9223372036854775808 := rfl
 rw [e1, e2, u64wrap, u64wrap, u64wrap, Int.fdiv_eq_ediv_of_nonneg _ (by decide)]
 unfold zig
 split
 ·have h1 : n / 9223372036854775808 % 18446744073709551616 = 0 := by omega
  have h2 : n % 18446744073709551616 * 2 % 18446744073709551616 = 2 * n := by omega
  rw [h1, h2]
  exact xor_zero (inR_u64.2 (by omega))
 ·have h1 : n / 9223372036854775808 % 18446744073709551616 = 18446744073709551615 := by omega
  have h2 : n % 18446744073709551616 * 2 % 18446744073709551616 = 2 * n + 18446744073709551616 := by omega
  rw [h1, h2, xor_ones (by omega)]
  omega
def in64 (n : Int) : Prop := -9223372036854775808 ≤ n ∧ n ≤ 9223372036854775807
def C45 : Contract := fun args hp K => match args with
 | [.ptr 0 0, .int .i64 n] => onWr hp fun bs => bs.length ≤ 70368744177664 ∧ (in64 n → K (.tup []) (wrH true (bs ++ numB (zig n))))
 | _ => False
theorem s45 : Sound Tryd.prog 45 C45 := by
 refine sound_of_okF ok45 (.cons s43 (callable_of_okF ok43) .nil) ?_
 intro args hp K h
 unfold C45 at h
 split at h
 ·rename_i n
  obtain ⟨bs, rfl, hb, h⟩ := h
  refine ⟨by simp, [], ?_⟩
  unfold wrH at h ⊢
  simp (maxSteps:=9^9) only [a45, r45, C43, wrH, go_sem, Int.reduceLT, Int.reduceLE, Int.reduceEq, Int.reduceNe, Int.reduceAdd, Int.reduceSub, Int.reduceMul, Int.reduceToNat, Int.reduceNeg, Nat.reduceEqDiff, Nat.reduceLeDiff, Nat.reduceSub, Nat.reduceMul, Nat.reduceLT, Nat.reduceBEq, Nat.reduceAdd]
  rintro hn m rfl _ _ m1 hm1 _ _ m2 hm2 _ m3 hm3 _ _ m4 hm4
  rw [inR_i64] at hn
  have e : m4 = zig n := by
   rw [hm4, hm3, hm2, hm1]; exact zig_bits hn
  subst e
  exact ⟨hb, h hn⟩
 ·exact h.elim
/-! ### reading -/
def numR (b : List UInt8) : Option (Int × List UInt8) :=
 match b with
 | [] => none
 | x :: r => if x.toNat < 248 then some (x.toNat, r) else
  if r.length < x.toNat - 247 then none else
  if beN (r.take (x.toNat - 247)) < 248 ∨ r.headD 0 = 0 then none else some (beN (r.take (x.toNat - 247)), r.drop (x.toNat - 247))
def rdNum (st : Option (List UInt8)) : Int × Option (List UInt8) :=
 match st.bind numR with
 | some x => (x.1, some x.2)
 | none => (0, none)
def rdText (st : Option (List UInt8)) : ByteArray × Option (List UInt8) :=
 match (rdNum st).2 with
 | none => (ByteArray.empty, none)
 | some r => if (r.length : Int) < (rdNum st).1 then (ByteArray.empty, none) else (⟨(r.take (rdNum st).1.toNat).toArray⟩, some (r.drop (rdNum st).1.toNat))
def rdInt (st : Option (List UInt8)) : Int × Option (List UInt8) := (unz (rdNum st).1, (rdNum st).2)
def rdH (st : Option (List UInt8)) : SB := .struct [.sl true 1 .byte (st.getD []), .bool st.isNone]
def onRd (hp : List SB) (k : Option (List UInt8) → Prop) : Prop := ∃ st, hp = [rdH st] ∧ k st
@[go_sem] theorem onRd_eq {st : Option (List UInt8)} {k} : onRd [.struct [.sl true 1 .byte (no_index (Option.getD st ([] : List UInt8))), .bool (Option.isNone st)]] k = k st := by
 apply propext; constructor
 ·rintro ⟨st', h, hk⟩
  unfold rdH at h
  have : st = st' := by
   simp at h
   cases st <;> cases st' <;> simp_all
  subst this
  exact hk
 ·exact fun h => ⟨st, rfl, h⟩
@[go_sem] theorem onRd_eq2 {bs k} : onRd [.struct [.sl true 1 .byte (no_index bs), .bool false]] k = k (some bs) := onRd_eq (st := some bs)
def C70 : Contract := fun args hp K => match args, hp with
 | [.ptr 0 0], [.struct [.sl p 1 .byte bs, .bool b]] => K (.tup []) [.struct [.nils, .bool true]]
 | _, _ => False
theorem s70 : Sound Tryd.prog 70 C70 := by
 refine sound_of_okF ok70 .nil ?_
 intro args hp K h
 unfold C70 at h
 split at h
 ·refine ⟨by simp, [], ?_⟩
  simp (maxSteps:=9^9) only [a70, r70, go_sem, Int.reduceLT, Int.reduceLE, Int.reduceEq, Int.reduceNe, Int.reduceAdd, Int.reduceSub, Int.reduceMul, Int.reduceToNat, Int.reduceNeg, Nat.reduceEqDiff, Nat.reduceLeDiff, Nat.reduceSub, Nat.reduceMul, Nat.reduceLT, Nat.reduceBEq, Nat.reduceAdd]
  exact h
 ·exact h.elim
def C50 : Contract := fun args hp K => match args, hp with
 | [x], [] => onL .byte 1 x fun xs => K (.ptr 0 0) [rdH (some xs)]
 | _, _ => False
theorem s50 : Sound Tryd.prog 50 C50 := by
 refine sound_of_okF ok50 .nil ?_
 intro args hp K h
 unfold C50 at h
 split at h
 ·refine ⟨by simp, [], ?_⟩
  rcases h with ⟨rfl, h⟩ | ⟨p, xs, rfl, h⟩
  ·simp (maxSteps:=9^9) only [a50, r50, go_sem, Int.reduceLT, Int.reduceLE, Int.reduceEq, Int.reduceNe, Int.reduceAdd, Int.reduceSub, Int.reduceMul, Int.reduceToNat, Int.reduceNeg, Nat.reduceEqDiff, Nat.reduceLeDiff, Nat.reduceSub, Nat.reduceMul, Nat.reduceLT, Nat.reduceBEq, Nat.reduceAdd]
   exact h
  ·simp (maxSteps:=9^9) only [a50, r50, go_sem, Int.reduceLT, Int.reduceLE, Int.reduceEq, Int.reduceNe, Int.reduceAdd, Int.reduceSub, Int.reduceMul, Int.reduceToNat, Int.reduceNeg, Nat.reduceEqDiff, Nat.reduceLeDiff, Nat.reduceSub, Nat.reduceMul, Nat.reduceLT, Nat.reduceBEq, Nat.reduceAdd]
   exact ⟨id, fun _ => h⟩
 ·exact h.elim
def C54 : Contract := fun args hp K => match args with
 | [.ptr 0 0] => onRd hp fun st => K (.bool (decide (st = some []))) [rdH st]
 | _ => False
theorem s54 : Sound Tryd.prog 54 C54 := by
 refine sound_of_okF ok54 .nil ?_
 intro args hp K h
 unfold C54 at h
 split at h
 ·obtain ⟨st, rfl, h⟩ := h
  refine ⟨by simp, [], ?_⟩
  unfold rdH at h ⊢
  simp (maxSteps:=9^9) only [a54, r54, go_sem, Int.reduceLT, Int.reduceLE, Int.reduceEq, Int.reduceNe, Int.reduceAdd, Int.reduceSub, Int.reduceMul, Int.reduceToNat, Int.reduceNeg, Nat.reduceEqDiff, Nat.reduceLeDiff, Nat.reduceSub, Nat.reduceMul, Nat.reduceLT, Nat.reduceBEq, Nat.reduceAdd]
  refine sw_intro (fun h1 => ?_) (fun h1 => ?_)
  ·cases st with
   | none => exact h
   | some bs => cases h1
  ·cases st with
   | none => cases h1
   | some bs =>
    rintro _ _ m rfl c hc
    have e : c = decide (some bs = some ([] : List UInt8)) := by
     rw [hc]; cases bs <;> simp
     omega
    rw [e]; exact h
 ·exact h.elim
def C51 : Contract := fun args hp K => match args with
 | [.ptr 0 0] => onRd hp fun st => K (.int .u64 (rdNum st).1) [rdH (rdNum st).2]
 | _ => False
def L51 (bs l : List UInt8) (k : Nat) : LoopAnn := cntA (fun i => ⟨[(0, .ptr 0 0), (4, .int .i64 k), (5, .int .u64 (beN (l.take i))), (61, .sl true 1 .byte l), (62, .int .i64 k), (63, .int .i64 i)], [.struct [.sl true 1 .byte bs, .bool false]]⟩) k
theorem beN_append (l : List UInt8) (x : UInt8) : beN (l ++ [x]) = beN l * 256 + x.toNat := by simp [beN]
theorem beN_lt' (l : List UInt8) : ∀ a : Nat, l.foldl (fun a b => a * 256 + b.toNat) a < (a + 1) * 256 ^ l.length := by
 induction l with
 | nil => intro a; simp
 | cons x r ih =>
  intro a
  rw [List.foldl_cons, List.length_cons]
  have h1 := ih (a * 256 + x.toNat)
  have h2 : x.toNat < 256 := x.toNat_lt
  have h3 : (a * 256 + x.toNat + 1) * 256 ^ r.length ≤ ((a + 1) * 256) * 256 ^ r.length := Nat.mul_le_mul_right _ (by omega)
  have h4 : (a + 1) * 256 ^ (r.length + 1) = ((a + 1) * 256) * 256 ^ r.length := by rw [Nat.pow_succ, Nat.mul_assoc, Nat.mul_comm (256 ^ r.length)]
  omega
theorem beN_lt (l : List UInt8) : beN l < 256 ^ l.length := by have := beN_lt' l 0; simpa [beN] using this
theorem or_add {a c : Int} (h1 : 0 ≤ a) (h2 : a < 72057594037927936) (h3 : 0 ≤ c ∧ c < 256) : bitsI .or .u64 (IntKind.u64.wrap (a * 2 ^ min 8 64)) c = a * 256 + c := by
 have e0 : (2 : Int) ^ min 8 64 = 256 := rfl
 rw [e0, u64wrap, show a * 256 % 18446744073709551616 = a * 256 by omega]
 obtain ⟨x, rfl⟩ := Int.eq_ofNat_of_zero_le h1
 obtain ⟨y, rfl⟩ := Int.eq_ofNat_of_zero_le h3.1
 have h : x <<< 8 + y = x <<< 8 ||| y := Nat.shiftLeft_add_eq_or_of_lt (by omega) x
 rw [Nat.shiftLeft_eq] at h
 have e1 : ((x : Int) * 256) = ((x * 256 : Nat) : Int) := by omega
 show IntKind.u64.wrap ((BitVec.ofInt 64 ((x : Int) * 256) ||| BitVec.ofInt 64 (y : Int)).toNat : Int) = _
 rw [e1, BitVec.ofInt_natCast, BitVec.ofInt_natCast, BitVec.toNat_or, BitVec.toNat_ofNat, BitVec.toNat_ofNat, Nat.mod_eq_of_lt (by omega), Nat.mod_eq_of_lt (by omega), u64wrap]
 have h' : x * 2 ^ 8 + y = x * 256 ||| y := h
 rw [← h']
 omega
theorem beN_step' {l : List UInt8} {i : Nat} (hi8 : i < 8) (hlt : i < l.length) :
  bitsI .or .u64 (IntKind.u64.wrap ((beN (l.take i) : Int) * 2 ^ min 8 64)) (UInt8.toNat (elt Ty.byte l i) : Int) = (beN (l.take (i + 1)) : Int) := by
 have h1 := beN_lt (l.take i)
 have h2 : (l.take i).length = i := by rw [List.length_take]; omega
 rw [h2] at h1
 have h3 : 256 ^ i ≤ 256 ^ 7 := Nat.pow_le_pow_right (by decide) (by omega)
 have h4 : UInt8.toNat (elt Ty.byte l i) < 256 := UInt8.toNat_lt _
 rw [or_add (by omega) (by omega) (by omega)]
 have h5 := take_elt (t := .byte) hlt
 rw [← h5]
 have h6 : beN (l.take i ++ [elt Ty.byte l i]) = beN (l.take i) * 256 + UInt8.toNat (elt Ty.byte l i) := beN_append _ _
 rw [h6]
 omega
theorem beN_step {l : List UInt8} {k i : Nat} (hk : k ≤ 8) (hl : l.length = k) (hi : i < k) :
  bitsI .or .u64 (IntKind.u64.wrap ((beN (l.take i) : Int) * 2 ^ min 8 64)) (UInt8.toNat (elt Ty.byte l i) : Int) = (beN (l.take (i + 1)) : Int) := beN_step' (by omega) (by omega)
theorem s51 : Sound Tryd.prog 51 C51 := by
 refine sound_of_okF ok51 (.cons s70 (callable_of_okF ok70) .nil) ?_
 intro args hp K h
 unfold C51 at h
 split at h
 ·obtain ⟨st, rfl, h⟩ := h
  refine ⟨by simp, [(1, L51 (st.getD []) (((st.getD []).drop 1).take (((st.getD []).headD 0).toNat - 247)) (((st.getD []).headD 0).toNat - 247))], ?_⟩
  unfold rdH at h ⊢
  simp (maxSteps:=9^9) only [a51, r51, C70, go_sem, Int.reduceLT, Int.reduceLE, Int.reduceEq, Int.reduceNe, Int.reduceAdd, Int.reduceSub, Int.reduceMul, Int.reduceToNat, Int.reduceNeg, Nat.reduceEqDiff, Nat.reduceLeDiff, Nat.reduceSub, Nat.reduceMul, Nat.reduceLT, Nat.reduceBEq, Nat.reduceAdd]
  refine sw_intro (fun h1 => ?_) (fun h1 => ?_)
  ·cases st with
   | none => exact h
   | some bs => cases h1
  ·cases st with
   | none => cases h1
   | some bs =>
    simp only [Option.getD_some, Option.isNone_some]
    rintro _ hb m rfl c hc
    cases bs with
    | nil =>
     have : c = true := by rw [hc]; rfl
     subst this
     exact h
    | cons x r =>
     have : c = false := by rw [hc]; simp; omega
     subst this
     refine sw_intro (fun h => by cases h) (fun _ => nd_intro (by simp) ?_)
     have e0 : elt Ty.byte (x :: r) 0 = x := rfl
     have hx : x.toNat < 256 := x.toNat_lt
     simp only [e0]
     rintro c rfl
     refine sw_intro (fun h2 => ?_) (fun h2 => ?_) <;> simp only [decide_eq_true_eq, decide_eq_false_iff_not] at h2
     ·refine nd_intro (by simp; omega) ?_
      rintro ys rfl _ m hm
      rw [wu64 (by omega)] at hm
      subst hm
      have e1 : rdNum (some (x :: r)) = ((x.toNat : Int), some r) := by
       simp only [rdNum, Option.bind_some, numR]
       rw [if_pos (by omega)]
      rw [e1] at h
      have e2 : List.take ((x :: r).length - 1) (List.drop 1 (x :: r)) = r := by simp
      rw [e2]
      exact h
     ·rintro _ m hm
      rw [w64 (by omega)] at hm
      subst hm
      rintro _ _ m1 hm1
      rw [w64 (by omega)] at hm1
      rintro _ _ m2 rfl _ _ m3 hm3
      have hl : (x :: r).length = r.length + 1 := rfl
      have := maxLen_val
      rw [w64 (by omega)] at hm3
      rintro c rfl
      have hk : m1 = ((x.toNat - 247 : Nat) : Int) := by omega
      subst hk
      generalize hkk : x.toNat - 247 = k at *
      have hk1 : 1 ≤ k ∧ k ≤ 8 := by omega
      refine sw_intro (fun h3 => ?_) (fun h3 => ?_) <;> simp only [decide_eq_true_eq, decide_eq_false_iff_not] at h3
      ·have e1 : rdNum (some (x :: r)) = (0, none) := by
        simp only [rdNum, Option.bind_some, numR]
        rw [if_neg (by omega), hkk, if_pos (by omega)]
       rw [e1] at h
       exact h
      ·rintro _ _ m4 hm4
       rw [w64 (by omega)] at hm4
       subst hm4
       refine nd_intro ⟨by omega, by omega⟩ ?_
       rintro ys rfl _ _ m5 rfl
       have e3 : ((1 : Int) + (k : Int)).toNat - 1 = k := by omega
       rw [e3]
       have hlen : (List.take k (List.drop 1 (x :: r))).length = k := by simp; omega
       rw [hlen]
       have e5 : ((x :: r).headD 0).toNat - 247 = k := hkk
       rw [e5]
       refine loop_intro (A := L51 (x :: r) (List.take k (List.drop 1 (x :: r))) k) (0 : Nat) ?_ (Nat.zero_le _) ?_
       ·simp (maxSteps:=9^9) only [L51, cntA_I, go_sem, Int.reduceLT, Int.reduceLE, Int.reduceEq, Int.reduceNe, Int.reduceAdd, Int.reduceSub, Int.reduceMul, Int.reduceToNat, Int.reduceNeg, Nat.reduceEqDiff, Nat.reduceLeDiff, Nat.reduceSub, Nat.reduceMul, Nat.reduceLT, Nat.reduceBEq, Nat.reduceAdd]
        rfl
       ·intro (i : Nat) (hi : i ≤ k)
        simp (maxSteps:=9^9) only [L51, cntA_I, C70, go_sem, Int.reduceLT, Int.reduceLE, Int.reduceEq, Int.reduceNe, Int.reduceAdd, Int.reduceSub, Int.reduceMul, Int.reduceToNat, Int.reduceNeg, Nat.reduceEqDiff, Nat.reduceLeDiff, Nat.reduceSub, Nat.reduceMul, Nat.reduceLT, Nat.reduceBEq, Nat.reduceAdd]
        have hlen' : (List.take k r).length = k := hlen
        rintro c rfl
        refine sw_intro (fun hc => ?_) (fun hc => ?_) <;> simp only [decide_eq_true_eq, decide_eq_false_iff_not] at hc
        ·refine nd_intro (by omega) ?_
         have hc8 : UInt8.toNat (elt Ty.byte (List.take k r) i) < 256 := UInt8.toNat_lt _
         rintro _ _ m6 hm6 _ m7 hm7
         rw [wu64 (by omega)] at hm7
         rintro _ _ m8 hm8
         rw [hm6, hm7, beN_step hk1.2 hlen' hc] at hm8
         subst hm8
         rintro _ _ m9 hm9
         rw [w64 (by omega)] at hm9
         subst hm9
         exact cntA_next hc (by simp (maxSteps:=9^9) only [go_sem, Int.reduceLT, Int.reduceLE, Int.reduceEq, Int.reduceNe, Int.reduceAdd, Int.reduceSub, Int.reduceMul, Int.reduceToNat, Int.reduceNeg, Nat.reduceEqDiff, Nat.reduceLeDiff, Nat.reduceSub, Nat.reduceMul, Nat.reduceLT, Nat.reduceBEq, Nat.reduceAdd]; rfl)
        ·have hik : i = k := by omega
         subst hik
         have e6 : List.take i (List.take i r) = List.take i r := by rw [List.take_take, Nat.min_self]
         rw [e6]
         have e7 : rdNum (some (x :: r)) = match (if beN (r.take i) < 248 ∨ r.headD 0 = 0 then none else some ((beN (r.take i) : Int), r.drop i)) with | some x => (x.1, some x.2) | none => (0, none) := by
          simp only [rdNum, Option.bind_some, numR]
          rw [if_neg (by omega), hkk, if_neg (by omega)]
         rintro c rfl
         refine sw_intro (fun hc2 => ?_) (fun hc2 => ?_) <;> simp only [decide_eq_true_eq, decide_eq_false_iff_not] at hc2
         ·rw [if_pos (.inl (by omega))] at e7
          rw [e7] at h
          exact h
         ·refine nd_intro (by omega) (nd_intro (by omega) ?_)
          rintro c rfl
          have e8 : elt Ty.byte (x :: r) 1 = r.headD 0 := by cases r <;> rfl
          refine sw_intro (fun hc3 => ?_) (fun hc3 => ?_) <;> simp only [decide_eq_true_eq, decide_eq_false_iff_not, e8] at hc3
          ·rw [if_pos (.inr (UInt8.toNat_inj.1 (by show (r.headD 0).toNat = 0; omega)))] at e7
           rw [e7] at h
           exact h
          ·rintro _ _ m6 hm6
           rw [w64 (by omega)] at hm6
           subst hm6
           refine nd_intro ⟨by omega, by omega⟩ ?_
           rintro ys rfl
           have e9 : List.take (r.length + 1 - ((1 : Int) + (i : Int)).toNat) (List.drop ((1 : Int) + (i : Int)).toNat (x :: r)) = r.drop i := by
            have : ((1 : Int) + (i : Int)).toNat = i + 1 := by omega
            rw [this, List.drop_succ_cons, List.take_of_length_le (by rw [List.length_drop]; omega)]
           rw [e9]
           rw [if_neg (fun hh => hh.elim (fun h => by omega) (fun h => hc3 (by rw [h]; rfl)))] at e7
           rw [e7] at h
           exact h
 ·exact h.elim
theorem rdNum_in (st : Option (List UInt8)) : 0 ≤ (rdNum st).1 ∧ (rdNum st).1 ≤ 18446744073709551615 := by
 cases st with
 | none => simp [rdNum]
 | some bs =>
  cases bs with
  | nil => simp [rdNum, numR]
  | cons x r =>
   have hx : x.toNat < 256 := x.toNat_lt
   simp only [rdNum, Option.bind_some, numR]
   by_cases h1 : x.toNat < 248
   ·rw [if_pos h1]; simp; omega
   ·rw [if_neg h1]
    by_cases h2 : r.length < x.toNat - 247
    ·rw [if_pos h2]; simp
    ·rw [if_neg h2]
     split
     ·rename_i y hy
      split at hy
      ·cases hy
      ·cases hy
       have h3 := beN_lt (r.take (x.toNat - 247))
       have h4 : (r.take (x.toNat - 247)).length ≤ 8 := by rw [List.length_take]; omega
       have h5 : 256 ^ (r.take (x.toNat - 247)).length ≤ 256 ^ 8 := Nat.pow_le_pow_right (by decide) h4
       simp only
       omega
     ·simp
theorem and_one {n : Int} (hn : 0 ≤ n ∧ n ≤ 18446744073709551615) : bitsI .and .u64 n 1 = n % 2 := by
 obtain ⟨x, rfl⟩ := Int.eq_ofNat_of_zero_le hn.1
 show IntKind.u64.wrap ((BitVec.ofInt 64 (x : Int) &&& BitVec.ofInt 64 1).toNat : Int) = _
 have e1 : BitVec.ofInt 64 1 = BitVec.ofNat 64 1 := rfl
 rw [e1, BitVec.ofInt_natCast, BitVec.toNat_and, BitVec.toNat_ofNat, Nat.mod_eq_of_lt (by omega), u64wrap]
 have e2 : (BitVec.ofNat 64 1).toNat = 2 ^ 1 - 1 := rfl
 rw [e2, Nat.and_two_pow_sub_one_eq_mod]
 omega
theorem xor_m1 {a : Int} (h : 0 ≤ a ∧ a ≤ 9223372036854775807) : bitsI .xor .i64 a (-1) = -a - 1 := by
 have h0 : BitVec.ofInt 64 (-1) = BitVec.allOnes 64 := by decide
 have e : bitsI .xor .i64 a (-1) = IntKind.i64.wrap ((~~~ (BitVec.ofInt 64 a)).toNat : Int) := by
  show IntKind.i64.wrap ((BitVec.ofInt 64 a ^^^ BitVec.ofInt 64 (-1)).toNat : Int) = _
  rw [h0, BitVec.xor_allOnes]
 rw [e, BitVec.toNat_not, BitVec.toNat_ofInt]
 simp only [IntKind.wrap, IntKind.signed, IntKind.bits]
 simp
 omega
theorem unz_bits {n : Int} (hn : 0 ≤ n ∧ n ≤ 18446744073709551615) :
  bitsI .xor .i64 (IntKind.i64.wrap (n.fdiv (2 ^ min 1 64))) (IntKind.i64.wrap (0 - IntKind.i64.wrap (bitsI .and .u64 n 1))) = unz n := by
 have e1 : (2 : Int) ^ min 1 64 = 2 := rfl
 rw [e1, Int.fdiv_eq_ediv_of_nonneg _ (by decide), and_one hn, w64 (by omega), w64 (n := n % 2) (by omega), w64 (by omega)]
 unfold unz
 split
 ·rename_i h
  rw [h]
  exact xor_zero (inR_i64.2 (by omega))
 ·have e : n % 2 = 1 := by omega
  rw [e]
  exact xor_m1 (by omega)
def C52 : Contract := fun args hp K => match args with
 | [.ptr 0 0] => onRd hp fun st => ((rdText st).1.size ≤ 140737488355328 → K (.str (rdText st).1) [rdH (rdText st).2])
 | _ => False
theorem s52 : Sound Tryd.prog 52 C52 := by
 refine sound_of_okF ok52 (.cons s70 (callable_of_okF ok70) (.cons s51 (callable_of_okF ok51) .nil)) ?_
 intro args hp K h
 unfold C52 at h
 split at h
 ·obtain ⟨st, rfl, h⟩ := h
  refine ⟨by simp, [], ?_⟩
  unfold rdH at h ⊢
  simp (maxSteps:=9^9) only [a52, r52, C70, C51, rdH, go_sem, Int.reduceLT, Int.reduceLE, Int.reduceEq, Int.reduceNe, Int.reduceAdd, Int.reduceSub, Int.reduceMul, Int.reduceToNat, Int.reduceNeg, Nat.reduceEqDiff, Nat.reduceLeDiff, Nat.reduceSub, Nat.reduceMul, Nat.reduceLT, Nat.reduceBEq, Nat.reduceAdd]
  generalize hn : rdNum st = x at *
  obtain ⟨n, st'⟩ := x
  have hr := rdNum_in st
  rw [hn] at hr
  refine sw_intro (fun h1 => ?_) (fun h1 => ?_)
  ·cases st' with
   | none =>
    have e : rdText st = (ByteArray.empty, none) := by unfold rdText; rw [hn]
    rw [e] at h
    exact h (by decide)
   | some bs => cases h1
  ·cases st' with
   | none => cases h1
   | some bs =>
    simp only [Option.getD_some, Option.isNone_some]
    have := maxLen_val
    rintro hb hb2 m rfl _ m1 hm1
    rw [wu64 (by omega)] at hm1
    subst hm1
    rintro c rfl
    refine sw_intro (fun hc => ?_) (fun hc => ?_) <;> simp only [decide_eq_true_eq, decide_eq_false_iff_not] at hc
    ·have e : rdText st = (ByteArray.empty, none) := by unfold rdText; rw [hn]; exact if_pos hc
     rw [e] at h
     exact h (by decide)
    ·have e : rdText st = (⟨(bs.take n.toNat).toArray⟩, some (bs.drop n.toNat)) := by unfold rdText; rw [hn]; exact if_neg hc
     rw [e] at h
     refine nd_intro ⟨by omega, by omega⟩ ?_
     rintro ys rfl u rfl
     refine nd_intro ⟨by omega, by omega⟩ ?_
     rintro ys rfl
     rw [show n.toNat - 0 = n.toNat by omega, List.take_of_length_le (i := bs.length - n.toNat) (by rw [List.length_drop]; exact Nat.le_refl _)]
     exact h (by show ((bs.take n.toNat).toArray).size ≤ _; rw [List.size_toArray, List.length_take]; omega)
 ·exact h.elim
def C53 : Contract := fun args hp K => match args with
 | [.ptr 0 0] => onRd hp fun st => K (.int .i64 (rdInt st).1) [rdH (rdInt st).2]
 | _ => False
theorem s53 : Sound Tryd.prog 53 C53 := by
 refine sound_of_okF ok53 (.cons s51 (callable_of_okF ok51) .nil) ?_
 intro args hp K h
 unfold C53 at h
 split at h
 ·obtain ⟨st, rfl, h⟩ := h
  refine ⟨by simp, [], ?_⟩
  unfold rdH at h ⊢
  simp (maxSteps:=9^9) only [a53, r53, C51, rdH, go_sem, Int.reduceLT, Int.reduceLE, Int.reduceEq, Int.reduceNe, Int.reduceAdd, Int.reduceSub, Int.reduceMul, Int.reduceToNat, Int.reduceNeg, Nat.reduceEqDiff, Nat.reduceLeDiff, Nat.reduceSub, Nat.reduceMul, Nat.reduceLT, Nat.reduceBEq, Nat.reduceAdd]
  generalize hn : rdNum st = x at *
  obtain ⟨n, st'⟩ := x
  have hr := rdNum_in st
  rw [hn] at hr
  rintro _ _ m rfl _ m1 rfl _ _ m2 rfl _ m3 rfl _ m4 rfl _ _ m5 rfl
  rw [unz_bits hr]
  have e : rdInt st = (unz n, st') := by unfold rdInt; rw [hn]
  rw [e] at h
  exact h
 ·exact h.elim
end Go.V
