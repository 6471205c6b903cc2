/- A part of the proof layer, or functions of the given program in it: contracts and their proofs. -/
import Derived.Test.YtbcmjkfdeikkhaaGreatN3
namespace Go.V
open Go.Proofs
set_option maxRecDepth 100000
set_option linter.unusedSimpArgs false
set_option linter.unnecessarySimpa false
set_option linter.unusedVariables false
/-! ### numbers as bytes -/
def klen (n : Nat) : Nat := if n < 256 then 1 else if n < 65536 then 2 else if n < 16777216 then 3 else if n < 4294967296 then 4 else if n < 1099511627776 then 5 else if n < 281474976710656 then 6 else if n < 72057594037927936 then 7 else 8
def beB (k n : Nat) : List UInt8 := (List.range k).map fun j => UInt8.ofNat (n / 256 ^ (k - 1 - j))
def numB (n : Int) : List UInt8 := if n < 248 then [UInt8.ofNat n.toNat] else UInt8.ofNat (247 + klen n.toNat) :: beB (klen n.toNat) n.toNat
def textB (s : ByteArray) : List UInt8 := numB s.size ++ s.data.toList
def zig (n : Int) : Int := if 0 ≤ n then 2 * n else -2 * n - 1
def unz (n : Int) : Int := if n % 2 = 0 then n / 2 else -(n / 2) - 1
def beN (l : List UInt8) : Nat := l.foldl (fun a b => a * 256 + b.toNat) 0

theorem klen_pos (n : Nat) : 1 ≤ klen n ∧ klen n ≤ 8 := by unfold klen; (repeat' split) <;> omega
theorem klen_of {n k : Int} (h : (k = 1 ∧ n < 256) ∨ (k = 2 ∧ 256 ≤ n ∧ n < 65536) ∨ (k = 3 ∧ 65536 ≤ n ∧ n < 16777216) ∨ (k = 4 ∧ 16777216 ≤ n ∧ n < 4294967296) ∨ (k = 5 ∧ 4294967296 ≤ n ∧ n < 1099511627776) ∨
    (k = 6 ∧ 1099511627776 ≤ n ∧ n < 281474976710656) ∨ (k = 7 ∧ 281474976710656 ≤ n ∧ n < 72057594037927936) ∨ (k = 8 ∧ 72057594037927936 ≤ n)) : (klen n.toNat : Int) = k := by
  unfold klen
  rcases h with h | h | h | h | h | h | h | h <;> (repeat' split) <;> omega
theorem klen_lo {n : Int} (h : 256 ≤ n) : ∀ j : Nat, j + 1 < klen n.toNat → (256 : Int) ^ (j + 1) ≤ n := by
  intro j hj
  have h8 := (klen_pos n.toNat).2
  unfold klen at hj
  have : j = 0 ∨ j = 1 ∨ j = 2 ∨ j = 3 ∨ j = 4 ∨ j = 5 ∨ j = 6 := by unfold klen at h8; omega
  rcases this with rfl | rfl | rfl | rfl | rfl | rfl | rfl <;> simp <;> (revert hj; (repeat' split) <;> omega)
theorem klen_hi {n : Int} (h : n ≤ 18446744073709551615) : n < (256 : Int) ^ (klen n.toNat) := by
  unfold klen
  (repeat' split) <;> simp <;> omega
theorem beB_length (k n : Nat) : (beB k n).length = k := by simp [beB]
theorem beB_get {k n j : Nat} (h : j < k) : (beB k n)[j]? = some (UInt8.ofNat (n / 256 ^ (k - 1 - j))) := by simp [beB, h]
theorem numB_length (n : Int) : 1 ≤ (numB n).length ∧ (numB n).length ≤ 9 := by
  unfold numB
  split
  · simp
  · have := klen_pos n.toNat
    simp [beB_length]; omega
theorem textB_length (s : ByteArray) : (textB s).length ≤ s.size + 9 := by
  have := (numB_length s.size).2
  have h : s.data.toList.length = s.size := by rw [Array.length_toList]; rfl
  simp only [textB, List.length_append, h]; omega

def lenT : ByteArray := ⟨#[0, 1, 2, 2, 3, 3, 3, 3, 4, 4, 4, 4, 4, 4, 4, 4, 5, 5, 5, 5, 5, 5, 5, 5, 5, 5, 5, 5, 5, 5, 5, 5, 6, 6, 6, 6, 6, 6, 6, 6, 6, 6, 6, 6, 6, 6, 6, 6, 6, 6, 6, 6, 6, 6, 6, 6, 6, 6, 6, 6, 6, 6, 6, 6, 7, 7, 7, 7, 7, 7, 7, 7, 7, 7, 7, 7, 7, 7, 7, 7, 7, 7, 7, 7, 7, 7, 7, 7, 7, 7, 7, 7, 7, 7, 7, 7, 7, 7, 7, 7, 7, 7, 7, 7, 7, 7, 7, 7, 7, 7, 7, 7, 7, 7, 7, 7, 7, 7, 7, 7, 7, 7, 7, 7, 7, 7, 7, 7, 8, 8, 8, 8, 8, 8, 8, 8, 8, 8, 8, 8, 8, 8, 8, 8, 8, 8, 8, 8, 8, 8, 8, 8, 8, 8, 8, 8, 8, 8, 8, 8, 8, 8, 8, 8, 8, 8, 8, 8, 8, 8, 8, 8, 8, 8, 8, 8, 8, 8, 8, 8, 8, 8, 8, 8, 8, 8, 8, 8, 8, 8, 8, 8, 8, 8, 8, 8, 8, 8, 8, 8, 8, 8, 8, 8, 8, 8, 8, 8, 8, 8, 8, 8, 8, 8, 8, 8, 8, 8, 8, 8, 8, 8, 8, 8, 8, 8, 8, 8, 8, 8, 8, 8, 8, 8, 8, 8, 8, 8, 8, 8, 8, 8, 8, 8, 8, 8, 8, 8, 8, 8, 8, 8, 8, 8, 8, 8]⟩

def lenL : List UInt8 := lenT.data.toList
theorem lenL_get : ∀ i : Fin 256, 1 ≤ i.val → 1 ≤ ((lenL.getD i.val 0).toNat) ∧ (lenL.getD i.val 0).toNat ≤ 8 := by decide +kernel
theorem fd32 {n : Int} : n.fdiv (2 ^ min 32 64) = n / 4294967296 := by rw [Int.fdiv_eq_ediv_of_nonneg _ (by decide)]; rfl
theorem fd16 {n : Int} : n.fdiv (2 ^ min 16 64) = n / 65536 := by rw [Int.fdiv_eq_ediv_of_nonneg _ (by decide)]; rfl
theorem fd8 {n : Int} : n.fdiv (2 ^ min 8 64) = n / 256 := by rw [Int.fdiv_eq_ediv_of_nonneg _ (by decide)]; rfl
theorem len_tail {K : SV → List SB → Prop} {x L : Int} (hx : 1 ≤ x ∧ x ≤ 255) (hL : 0 ≤ L ∧ L ≤ 56) (h : ∀ t : Int, 1 ≤ t → t ≤ 8 → K (.int .i64 (L + t)) []) :
    inR .u64 x → ∀ m2 : Int, m2 = IntKind.u8.wrap x → nd (0 ≤ m2 ∧ m2 < (lenT.size : Int)) (∀ m3 : Int, m3 = ((lenL.getD m2.toNat 0).toNat : Int) → inR .u8 m3 → ∀ m4 : Int, m4 = IntKind.i64.wrap m3 → inR .i64 L → inR .i64 m4 → ∀ m5 : Int, m5 = IntKind.i64.wrap (L + m4) → K (.int .i64 m5) []) := by
  rintro _ m2 hm2
  rw [wu8 (by omega)] at hm2
  subst hm2
  refine nd_intro ⟨by omega, ?_⟩ ?_
  · have : lenT.size = 256 := by decide +kernel
    rw [this]; omega
  · rintro m3 hm3 _ m4 hm4 _ _ m5 hm5
    obtain ⟨i, rfl⟩ := Int.eq_ofNat_of_zero_le (show 0 ≤ m2 by omega)
    have := lenL_get ⟨i, by omega⟩ (by show 1 ≤ i; omega)
    simp only [Int.toNat_natCast] at hm3
    simp only at this
    rw [w64 (by omega)] at hm4
    subst hm4
    rw [w64 (by omega)] at hm5
    subst hm5
    exact h _ (by omega) (by omega)

def C107 : Contract := fun args hp K => match args, hp with
  | [.int .u64 n], [] => 1 ≤ n ∧ ∀ l : Int, 1 ≤ l → l ≤ 64 → (l + 7) / 8 = klen n.toNat → K (.int .i64 l) []
  | _, _ => False
theorem s107 : Sound Tryz.prog 107 C107 := by
  refine sound_of_okF ok107 (Γ := []) .nil ?_
  intro args hp K h
  unfold C107 at h
  split at h
  · rename_i n
    obtain ⟨hn, h⟩ := h
    refine ⟨by simp, [], ?_⟩
    simp (maxSteps := 2000000) only [a107, r107, go_sem, eq_self, and_self, Int.natCast_pos, Int.le_refl, Nat.le_refl, Int.natCast_nonneg, Int.ofNat_lt, Int.ofNat_le, Int.reduceLT, Int.reduceLE, Int.reduceEq, Int.reduceNe, Int.reduceAdd, Int.reduceSub, Int.reduceMul, Int.reduceToNat, Int.reduceNeg, Nat.reduceEqDiff, Nat.reduceLeDiff, Nat.reduceSub, Nat.reduceMul, Nat.reduceLT, Nat.reduceBEq, Nat.reduceAdd]
    have fin : ∀ L : Int, L % 8 = 0 → 0 ≤ L → L ≤ 56 → (klen n.toNat : Int) = L / 8 + 1 → ∀ t : Int, 1 ≤ t → t ≤ 8 → K (.int .i64 (L + t)) [] :=
      fun L h1 h2 h3 h4 t h5 h6 => h _ (by omega) (by omega) (by omega)
    rintro c1 hc1
    refine sw_intro (fun h1 => ?_) (fun h1 => ?_) <;> simp only [hc1, decide_eq_true_eq, decide_eq_false_iff_not] at h1
    · rintro hn2 _ m1 rfl c2 hc2
      rw [inR_u64] at hn2
      rw [fd32] at hc2 ⊢
      refine sw_intro (fun h2 => ?_) (fun h2 => ?_) <;> simp only [hc2, decide_eq_true_eq, decide_eq_false_iff_not] at h2
      · rintro _ _ m2 rfl _ _ L1 hL1 c3 hc3
        rw [w64 (by omega)] at hL1
        subst hL1
        rw [fd16] at hc3 ⊢
        refine sw_intro (fun h3 => ?_) (fun h3 => ?_) <;> simp only [hc3, decide_eq_true_eq, decide_eq_false_iff_not] at h3
        · rintro _ _ m3 rfl _ _ L2 hL2
          rw [w64 (by omega)] at hL2
          subst hL2
          rw [fd8]
          refine len_tail ?_ ?_ (fin _ ?_ ?_ ?_ ?_) <;> first | omega | (refine klen_of ?_; omega)
        · refine len_tail ?_ ?_ (fin _ ?_ ?_ ?_ ?_) <;> first | omega | (refine klen_of ?_; omega)
      · rintro c3 hc3
        refine sw_intro (fun h3 => ?_) (fun h3 => ?_) <;> simp only [hc3, decide_eq_true_eq, decide_eq_false_iff_not] at h3
        · rintro _ _ m3 rfl _ _ L2 hL2
          rw [w64 (by omega)] at hL2
          subst hL2
          rw [fd8]
          refine len_tail ?_ ?_ (fin _ ?_ ?_ ?_ ?_) <;> first | omega | (refine klen_of ?_; omega)
        · refine len_tail ?_ ?_ (fin _ ?_ ?_ ?_ ?_) <;> first | omega | (refine klen_of ?_; omega)
    · rintro c2 hc2
      refine sw_intro (fun h2 => ?_) (fun h2 => ?_) <;> simp only [hc2, decide_eq_true_eq, decide_eq_false_iff_not] at h2
      · rintro _ _ m2 rfl _ _ L1 hL1 c3 hc3
        rw [w64 (by omega)] at hL1
        subst hL1
        rw [fd16] at hc3 ⊢
        refine sw_intro (fun h3 => ?_) (fun h3 => ?_) <;> simp only [hc3, decide_eq_true_eq, decide_eq_false_iff_not] at h3
        · rintro _ _ m3 rfl _ _ L2 hL2
          rw [w64 (by omega)] at hL2
          subst hL2
          rw [fd8]
          refine len_tail ?_ ?_ (fin _ ?_ ?_ ?_ ?_) <;> first | omega | (refine klen_of ?_; omega)
        · refine len_tail ?_ ?_ (fin _ ?_ ?_ ?_ ?_) <;> first | omega | (refine klen_of ?_; omega)
      · rintro c3 hc3
        refine sw_intro (fun h3 => ?_) (fun h3 => ?_) <;> simp only [hc3, decide_eq_true_eq, decide_eq_false_iff_not] at h3
        · rintro _ _ m3 rfl _ _ L2 hL2
          rw [w64 (by omega)] at hL2
          subst hL2
          rw [fd8]
          refine len_tail ?_ ?_ (fin _ ?_ ?_ ?_ ?_) <;> first | omega | (refine klen_of ?_; omega)
        · refine len_tail ?_ ?_ (fin _ ?_ ?_ ?_ ?_) <;> first | omega | (refine klen_of ?_; omega)
  · exact h.elim
def wrH (b : Bool) (bs : List UInt8) : List SB := [.struct [.own 1], .row b 1 .byte bs]
def onWr (hp : List SB) (k : List UInt8 → Prop) : Prop := ∃ bs, hp = wrH false bs ∧ k bs
@[go_sem] theorem onWr_eq {bs k} : onWr [.struct [.own 1], .row false 1 .byte (no_index bs)] k = k bs := by
  apply propext; constructor
  · rintro ⟨bs', h, hk⟩
    unfold wrH at h
    cases h
    exact hk
  · exact fun h => ⟨bs, rfl, h⟩

def C58 : Contract := fun args hp K => match args, hp with
  | [], [] => K (.ptr 0 0) (wrH true [])
  | _, _ => False
theorem s58 : Sound Tryz.prog 58 C58 := by
  refine sound_of_okF ok58 (Γ := []) .nil ?_
  intro args hp K h
  unfold C58 at h
  split at h
  · refine ⟨by simp, [], ?_⟩
    simp (maxSteps := 2000000) only [a58, r58, go_sem, eq_self, and_self, Int.natCast_pos, Int.le_refl, Nat.le_refl, Int.natCast_nonneg, Int.ofNat_lt, Int.ofNat_le, Int.reduceLT, Int.reduceLE, Int.reduceEq, Int.reduceNe, Int.reduceAdd, Int.reduceSub, Int.reduceMul, Int.reduceToNat, Int.reduceNeg, Nat.reduceEqDiff, Nat.reduceLeDiff, Nat.reduceSub, Nat.reduceMul, Nat.reduceLT, Nat.reduceBEq, Nat.reduceAdd]
    exact h
  · exact h.elim

theorem u8wrap (x : Int) : IntKind.u8.wrap x = x % 256 := by
  simp [IntKind.wrap, IntKind.signed, IntKind.bits]
theorem byte_at {n : Int} (h : 0 ≤ n) {j : Nat} : UInt8.ofNat (IntKind.u8.wrap (n.fdiv (2 ^ (8 * j)))).toNat = UInt8.ofNat (n.toNat / 256 ^ j) := by
  obtain ⟨a, rfl⟩ := Int.eq_ofNat_of_zero_le h
  have e : (2 : Int) ^ (8 * j) = ((256 ^ j : Nat) : Int) := by rw [Int.pow_mul]; simp
  rw [u8wrap, e, Int.fdiv_eq_ediv_of_nonneg _ (Int.natCast_nonneg _), Int.toNat_natCast, ← Int.natCast_ediv]
  have e2 : ((((a / 256 ^ j : Nat) : Int)) % 256).toNat = (a / 256 ^ j) % 256 := by omega
  rw [e2]
  apply UInt8.toNat_inj.1
  simp

def C59 : Contract := fun args hp K => match args with
  | [.ptr 0 0, .int .u64 n] => onWr hp fun bs => bs.length ≤ 70368744177664 ∧ K (.tup []) (wrH true (bs ++ numB n))
  | _ => False
def L59 (bs : List UInt8) (n : Int) : LoopAnn := cntA (fun i => ⟨[(0, .ptr 0 0), (1, .int .u64 n), (5, .int .i64 (klen n.toNat - 1 - i))], [.struct [.own 1], .row true 1 .byte (bs ++ UInt8.ofNat (247 + klen n.toNat) :: (beB (klen n.toNat) n.toNat).take i)]⟩) (klen n.toNat)
theorem s59 : Sound Tryz.prog 59 C59 := by
  refine sound_of_okF ok59 (Γ := [(107, C107)]) (.cons s107 (callable_of_okF ok107) .nil) ?_
  intro args hp K h
  unfold C59 at h
  split at h
  · rename_i n
    obtain ⟨bs, rfl, hb, h⟩ := h
    refine ⟨by simp, [(1, L59 bs n)], ?_⟩
    unfold wrH at h ⊢
    simp (maxSteps := 2000000) only [a59, r59, C107, go_sem, eq_self, and_self, Int.natCast_pos, Int.le_refl, Nat.le_refl, Int.natCast_nonneg, Int.ofNat_lt, Int.ofNat_le, Int.reduceLT, Int.reduceLE, Int.reduceEq, Int.reduceNe, Int.reduceAdd, Int.reduceSub, Int.reduceMul, Int.reduceToNat, Int.reduceNeg, Nat.reduceEqDiff, Nat.reduceLeDiff, Nat.reduceSub, Nat.reduceMul, Nat.reduceLT, Nat.reduceBEq, Nat.reduceAdd]
    rintro c rfl
    refine sw_intro (fun h1 => ?_) (fun h1 => ?_) <;> simp only [decide_eq_true_eq, decide_eq_false_iff_not] at h1
    · rintro hi m hm
      rw [inR_u64] at hi
      rw [wu8 (by omega)] at hm
      subst hm
      refine ⟨fun _ => by omega, fun _ => ?_⟩
      have e : numB m = [UInt8.ofNat m.toNat] := by unfold numB; rw [if_pos h1]
      rw [e] at h
      exact h
    · have hk := klen_pos n.toNat
      have hn0 : 0 ≤ n := by omega
      have e : numB n = UInt8.ofNat (247 + klen n.toNat) :: beB (klen n.toNat) n.toNat := by unfold numB; rw [if_neg h1]
      rw [e] at h
      refine ⟨by omega, ?_⟩
      rintro l hl1 hl2 hl _ _ m hm _ _ m1 hm1
      rw [w64 (by omega)] at hm
      subst hm
      rw [Int.tdiv_eq_ediv_of_nonneg (by omega), w64 (by omega), hl] at hm1
      subst hm1
      rintro _ _ m2 hm2 _ m3 hm3
      rw [w64 (by omega)] at hm2
      subst hm2
      rw [wu8 (by omega)] at hm3
      subst hm3
      refine ⟨fun _ => by omega, fun _ _ _ m4 hm4 => ?_⟩
      rw [w64 (by omega)] at hm4
      subst hm4
      have e2 : ((247 : Int) + (klen n.toNat : Int)).toNat = 247 + klen n.toNat := by omega
      rw [e2]
      refine loop_intro (A := L59 bs n) (0 : Nat) ?_ (Nat.zero_le _) ?_
      · simp (maxSteps := 2000000) only [L59, cntA_I, go_sem, eq_self, and_self, Int.natCast_pos, Int.le_refl, Nat.le_refl, Int.natCast_nonneg, Int.ofNat_lt, Int.ofNat_le, Int.reduceLT, Int.reduceLE, Int.reduceEq, Int.reduceNe, Int.reduceAdd, Int.reduceSub, Int.reduceMul, Int.reduceToNat, Int.reduceNeg, Nat.reduceEqDiff, Nat.reduceLeDiff, Nat.reduceSub, Nat.reduceMul, Nat.reduceLT, Nat.reduceBEq, Nat.reduceAdd]
        rw [show ((klen n.toNat : Int) - 1 - ((0 : Nat) : Int)) = (klen n.toNat : Int) - 1 by omega]
        rfl
      · intro (i : Nat) (hi : i ≤ klen n.toNat)
        simp (maxSteps := 2000000) only [L59, cntA_I, go_sem, eq_self, and_self, Int.natCast_pos, Int.le_refl, Nat.le_refl, Int.natCast_nonneg, Int.ofNat_lt, Int.ofNat_le, Int.reduceLT, Int.reduceLE, Int.reduceEq, Int.reduceNe, Int.reduceAdd, Int.reduceSub, Int.reduceMul, Int.reduceToNat, Int.reduceNeg, Nat.reduceEqDiff, Nat.reduceLeDiff, Nat.reduceSub, Nat.reduceMul, Nat.reduceLT, Nat.reduceBEq, Nat.reduceAdd]
        rintro c rfl
        refine sw_intro (fun hc => ?_) (fun hc => ?_) <;> simp only [decide_eq_true_eq, decide_eq_false_iff_not] at hc
        · have hlt : i < klen n.toNat := by omega
          rintro _ _ m hm
          rw [w64 (by omega)] at hm
          subst hm
          refine ⟨by omega, fun _ _ _ m1 hm1 => ?_⟩
          have hx : (8 * ((klen n.toNat : Int) - 1 - i)).toNat = 8 * (klen n.toNat - 1 - i) := by omega
          rw [hx, Nat.min_eq_left (by omega)] at hm1
          rintro _ m2 hm2
          have hb2 : UInt8.ofNat m2.toNat = UInt8.ofNat (n.toNat / 256 ^ (klen n.toNat - 1 - i)) := by
            rw [hm2, hm1, byte_at hn0]
          have hlen : (bs ++ UInt8.ofNat (247 + klen n.toNat) :: List.take i (beB (klen n.toNat) n.toNat)).length = bs.length + (1 + i) := by
            simp [beB_length]; omega
          refine ⟨fun _ => by rw [hlen]; omega, fun _ _ _ m3 hm3 => ?_⟩
          rw [w64 (by omega)] at hm3
          subst hm3
          refine cntA_next hlt ?_
          simp (maxSteps := 2000000) only [go_sem, eq_self, and_self, Int.natCast_pos, Int.le_refl, Nat.le_refl, Int.natCast_nonneg, Int.ofNat_lt, Int.ofNat_le, Int.reduceLT, Int.reduceLE, Int.reduceEq, Int.reduceNe, Int.reduceAdd, Int.reduceSub, Int.reduceMul, Int.reduceToNat, Int.reduceNeg, Nat.reduceEqDiff, Nat.reduceLeDiff, Nat.reduceSub, Nat.reduceMul, Nat.reduceLT, Nat.reduceBEq, Nat.reduceAdd]
          rw [hb2, List.append_assoc, List.cons_append, take_snoc (beB_get hlt), show ((klen n.toNat : Int) - 1 - ((i + 1 : Nat) : Int)) = (klen n.toNat : Int) - 1 - i - 1 by omega]
        · have : i = klen n.toNat := by omega
          subst this
          rw [List.take_of_length_le (by rw [beB_length]; exact Nat.le_refl _)]
          exact h
  · exact h.elim

def C63 : Contract := fun args hp K => match args with
  | [.ptr 0 0] => onWr hp fun bs => K (.own 2) (wrH false bs ++ [.row true 1 .byte bs])
  | _ => False
theorem s63 : Sound Tryz.prog 63 C63 := by
  refine sound_of_okF ok63 (Γ := []) .nil ?_
  intro args hp K h
  unfold C63 at h
  split at h
  · obtain ⟨bs, rfl, h⟩ := h
    refine ⟨by simp, [], ?_⟩
    unfold wrH at h ⊢
    simp (maxSteps := 2000000) only [a63, r63, go_sem, eq_self, and_self, Int.natCast_pos, Int.le_refl, Nat.le_refl, Int.natCast_nonneg, Int.ofNat_lt, Int.ofNat_le, Int.reduceLT, Int.reduceLE, Int.reduceEq, Int.reduceNe, Int.reduceAdd, Int.reduceSub, Int.reduceMul, Int.reduceToNat, Int.reduceNeg, Nat.reduceEqDiff, Nat.reduceLeDiff, Nat.reduceSub, Nat.reduceMul, Nat.reduceLT, Nat.reduceBEq, Nat.reduceAdd]
    exact ⟨id, fun _ => h⟩
  · exact h.elim
end Go.V
