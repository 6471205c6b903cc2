/- A part of the proof layer, or functions of the given program in it: contracts and their proofs. -/
import Derived.Test.YtbcmjkfdeikkhaaGreatMA20
namespace Go.V
open Go.Proofs
set_option maxRecDepth 100000
set_option linter.unusedSimpArgs false
set_option linter.unnecessarySimpa false
set_option linter.unusedVariables false
def intsB (xs : List Int) : List UInt8 := xs.flatMap fun x => numB (zig x)
def letB (l : LetT.den) : List UInt8 := textB l.1 ++ numB l.2.1 ++ numB (zig l.2.2.1) ++ numB l.2.2.2.length ++ intsB l.2.2.2
theorem intsB_snoc (xs : List Int) (x : Int) : intsB (xs ++ [x]) = intsB xs ++ numB (zig x) := by simp [intsB]
theorem intsB_length (xs : List Int) : (intsB xs).length ≤ 9 * xs.length := by
  induction xs with
  | nil => simp [intsB]
  | cons x r ih =>
    have := (numB_length (zig x)).2
    simp only [intsB, List.flatMap_cons, List.length_append, List.length_cons] at ih ⊢
    omega
theorem letB_length (l : LetT.den) : (letB l).length ≤ l.1.size + 36 + 9 * l.2.2.2.length := by
  have h1 := textB_length l.1
  have h2 := (numB_length l.2.1).2
  have h3 := (numB_length (zig l.2.2.1)).2
  have h4 := (numB_length l.2.2.2.length).2
  have h5 := intsB_length l.2.2.2
  simp only [letB, List.length_append]; omega

def rdInts : Nat → Option (List UInt8) → List Int × Option (List UInt8)
  | 0, st => ([], st)
  | n + 1, st => ((rdInts n st).1 ++ [(rdInt (rdInts n st).2).1], (rdInt (rdInts n st).2).2)
def rdLet (st : Option (List UInt8)) : Option LetT.den × Option (List UInt8) :=
  let a := rdText st
  let b := rdNum a.2
  let c := rdInt b.2
  let d := rdNum c.2
  if 4 < d.1 then (none, d.2) else
    let e := rdInts d.1.toNat d.2
    if e.2 = none ∨ 40 < a.1.size then (none, e.2) else (some (a.1, b.1, c.1, e.1), e.2)

/-- Formed -/
def C74 : Contract := fun args hp K => match args, hp with
  | [.agg [.str f, .int .u64 s, .int .i64 k, x]], [] => onL (.int .i64) 8 x fun xs => K (.bool (decide (f.size ≤ 40) && decide (xs.length ≤ 4))) []
  | [.agg [.str f, .int .u64 s, .int .i64 k, .own 0]], [.row false 8 (.int .i64) xs] => K (.bool (decide (f.size ≤ 40) && decide ((xs : List Int).length ≤ 4))) [.row false 8 (.int .i64) xs]
  | _, _ => False
theorem s74 : Sound Tryz.prog 74 C74 := by
  refine sound_of_okF ok74 (Γ := []) .nil ?_
  intro args hp K h
  unfold C74 at h
  split at h
  · refine ⟨by simp, [], ?_⟩
    rcases h with ⟨rfl, h⟩ | ⟨p, xs, rfl, h⟩
    · simp (maxSteps := 2000000) only [a74, r74, go_sem, Nat.le_refl, Int.reduceLE, Nat.reduceLeDiff, Nat.reduceSub, Nat.reduceBEq]
      rintro _ m rfl c rfl
      refine sw_intro (fun h1 => ?_) (fun h1 => ?_) <;> simp only [decide_eq_true_eq, decide_eq_false_iff_not] at h1
      · rw [decide_eq_true (by omega)] at h; exact h
      · rw [decide_eq_false (by omega)] at h; exact h
    · simp (maxSteps := 2000000) only [a74, r74, go_sem, Nat.le_refl, Nat.reduceLeDiff, Nat.reduceSub, Nat.reduceBEq]
      rintro _ m rfl c rfl
      refine sw_intro (fun h1 => ?_) (fun h1 => ?_) <;> simp only [decide_eq_true_eq, decide_eq_false_iff_not] at h1
      · rw [decide_eq_true (by omega)] at h
        rintro _ _ m rfl c hc
        have : c = decide (xs.length ≤ 4) := by rw [hc]; simp; omega
        rw [this]; exact h
      · rw [decide_eq_false (by omega)] at h; exact h
  · rename_i xs
    refine ⟨by simp, [], ?_⟩
    simp (maxSteps := 2000000) only [a74, r74, go_sem, Nat.le_refl, Nat.reduceLeDiff, Nat.reduceSub, Nat.reduceBEq]
    rintro _ m rfl c rfl
    refine sw_intro (fun h1 => ?_) (fun h1 => ?_) <;> simp only [decide_eq_true_eq, decide_eq_false_iff_not] at h1
    · rw [decide_eq_true (by omega)] at h
      rintro _ _ m rfl c hc
      have : c = decide (xs.length ≤ 4) := by rw [hc]; simp; omega
      rw [this]; exact h
    · rw [decide_eq_false (by omega)] at h; exact h
  · exact h.elim

/-- Formed, of the document -/
def C77 : Contract := C74
theorem s77 : Sound Tryz.prog 77 C77 := by
  refine sound_of_okF ok77 (Γ := []) .nil ?_
  intro args hp K h
  unfold C77 C74 at h
  split at h
  · refine ⟨by simp, [], ?_⟩
    rcases h with ⟨rfl, h⟩ | ⟨p, xs, rfl, h⟩
    · simp (maxSteps := 2000000) only [a77, r77, go_sem, Nat.le_refl, Int.reduceLE, Nat.reduceLeDiff, Nat.reduceSub, Nat.reduceBEq]
      rintro _ m rfl c rfl
      refine sw_intro (fun h1 => ?_) (fun h1 => ?_) <;> simp only [decide_eq_true_eq, decide_eq_false_iff_not] at h1
      · rw [decide_eq_true (by omega)] at h; exact h
      · rw [decide_eq_false (by omega)] at h; exact h
    · simp (maxSteps := 2000000) only [a77, r77, go_sem, Nat.le_refl, Nat.reduceLeDiff, Nat.reduceSub, Nat.reduceBEq]
      rintro _ m rfl c rfl
      refine sw_intro (fun h1 => ?_) (fun h1 => ?_) <;> simp only [decide_eq_true_eq, decide_eq_false_iff_not] at h1
      · rw [decide_eq_true (by omega)] at h
        rintro _ _ m rfl c hc
        have : c = decide (xs.length ≤ 4) := by rw [hc]; simp; omega
        rw [this]; exact h
      · rw [decide_eq_false (by omega)] at h; exact h
  · rename_i xs
    refine ⟨by simp, [], ?_⟩
    simp (maxSteps := 2000000) only [a77, r77, go_sem, Nat.le_refl, Nat.reduceLeDiff, Nat.reduceSub, Nat.reduceBEq]
    rintro _ m rfl c rfl
    refine sw_intro (fun h1 => ?_) (fun h1 => ?_) <;> simp only [decide_eq_true_eq, decide_eq_false_iff_not] at h1
    · rw [decide_eq_true (by omega)] at h
      rintro _ _ m rfl c hc
      have : c = decide (xs.length ≤ 4) := by rw [hc]; simp; omega
      rw [this]; exact h
    · rw [decide_eq_false (by omega)] at h; exact h
  · exact h.elim

/-- lay -/
def C106 : Contract := fun args hp K => match args with
  | [.ptr 0 0, .agg [.str f, .int .u64 s, .int .i64 k, .sl p 8 (.int .i64) xs]] => onWr hp fun bs => f.size ≤ 1000000 ∧ xs.length ≤ 1000000 ∧ bs.length ≤ 1000000000000 ∧ (in64 k ∧ inI xs → K (.tup []) (wrH true (bs ++ letB (f, s, k, xs))))
  | _ => False
def L106 (p : Bool) (bs : List UInt8) (xs : List Int) : LoopAnn := { G := Nat, I := fun i => ⟨[(0, .ptr 0 0), (25, .sl p 8 (.int .i64) xs), (26, .int .i64 xs.length), (27, .int .i64 i)], [.struct [.own 1], .row true 1 .byte (bs ++ intsB (xs.take i))]⟩, R := fun _ i => i ≤ xs.length ∧ inI (xs.take i), μ := fun i => xs.length - i }
theorem L106_I {p bs xs} (i : Nat) : (L106 p bs xs).I i = ⟨[(0, .ptr 0 0), (25, .sl p 8 (.int .i64) xs), (26, .int .i64 xs.length), (27, .int .i64 i)], [.struct [.own 1], .row true 1 .byte (bs ++ intsB (xs.take i))]⟩ := rfl
theorem s106 : Sound Tryz.prog 106 C106 := by
  refine sound_of_okF ok106 (Γ := [(62, C62), (59, C59), (108, C108)]) (.cons s62 (callable_of_okF ok62) (.cons s59 (callable_of_okF ok59) (.cons s108 (callable_of_okF ok108) .nil))) ?_
  intro args hp K h
  unfold C106 at h
  split at h
  · rename_i f s k p xs
    obtain ⟨bs, rfl, h1, h2, h3, h⟩ := h
    refine ⟨by simp, [(1, L106 p (bs ++ textB f ++ numB s ++ numB (zig k) ++ numB (xs.length : Int)) xs)], ?_⟩
    unfold wrH at h ⊢
    simp (maxSteps := 2000000) only [a106, r106, C62, C59, C108, wrH, go_sem, eq_self, Nat.le_refl, Nat.reduceLeDiff, Nat.reduceSub, Nat.reduceLT, Nat.reduceBEq, Nat.reduceAdd]
    have b1 := textB_length f
    have b2 := (numB_length s).2
    have b3 := (numB_length (zig k)).2
    have b4 := (numB_length (xs.length : Int)).2
    have hx : ∀ m : Nat, (bs ++ textB f ++ numB s ++ numB (zig k) ++ numB (xs.length : Int) ++ intsB (xs.take m)).length ≤ 70368744177664 := by
      intro m
      have b5 := intsB_length (xs.take m)
      have : (xs.take m).length ≤ xs.length := List.length_take_le' _ _
      simp only [List.length_append]; omega
    have hx0 := hx 0
    simp only [List.length_append] at hx0
    refine ⟨by omega, by simp only [List.length_append]; omega, by simp only [List.length_append]; omega, ?_⟩
    rintro hk64 _ _ m rfl _ m1 hm1
    rw [wu64 (by omega)] at hm1
    subst hm1
    refine ⟨by simp only [List.length_append]; omega, ?_⟩
    rintro _ _ m rfl
    refine loop_intro (A := L106 p (bs ++ textB f ++ numB s ++ numB (zig k) ++ numB (xs.length : Int)) xs) (0 : Nat) ?_ ⟨Nat.zero_le _, fun x hx => by simp at hx⟩ ?_
    · simp (maxSteps := 2000000) only [L106_I, go_sem, Nat.reduceBEq]
      simp [intsB]
    · intro (i : Nat) (hi : i ≤ xs.length ∧ inI (xs.take i))
      obtain ⟨hi, hin⟩ := hi
      simp (maxSteps := 2000000) only [L106_I, C108, wrH, go_sem, eq_self, Int.natCast_nonneg, Int.ofNat_lt, Nat.reduceLT, Nat.reduceBEq, Nat.reduceAdd]
      rintro c rfl
      refine sw_intro (fun hc => ?_) (fun hc => ?_) <;> simp only [decide_eq_true_eq, decide_eq_false_iff_not] at hc
      · refine nd_intro hc ⟨hx i, ?_⟩
        rintro hx64 _ _ m hm
        have := maxLen_val
        rw [w64 (by omega)] at hm
        subst hm
        refine lpE_intro (A := L106 p (bs ++ textB f ++ numB s ++ numB (zig k) ++ numB (xs.length : Int)) xs) (i + 1 : Nat) ?_ ⟨hc, fun x hx => ?_⟩ (by show xs.length - (i + 1) < xs.length - i; omega)
        rotate_left
        · rw [← take_elt hc] at hx
          rcases List.mem_append.1 hx with hx | hx
          · exact hin x hx
          · simp only [List.mem_singleton] at hx
            subst hx
            exact hx64
        simp (maxSteps := 2000000) only [L106_I, go_sem, Nat.reduceBEq]
        rw [← take_elt hc, intsB_snoc, List.append_assoc]
        rfl
      · have : i = xs.length := by omega
        subst this
        rw [List.take_length] at hin ⊢
        have e : bs ++ textB f ++ numB s ++ numB (zig k) ++ numB (xs.length : Int) ++ intsB xs = bs ++ letB (f, s, k, xs) := by simp [letB]
        rw [e]
        exact h ⟨hk64, hin⟩
  · exact h.elim

/-- Encode -/
def C97 : Contract := fun args hp K => match args, hp with
  | [.agg [.str f, .int .u64 s, .int .i64 k, .sl p 8 (.int .i64) xs]], [] => f.size ≤ 40 ∧ (xs : List Int).length ≤ 4 ∧ (in64 k ∧ inI xs → K (.tup [.own 0, .int .i64 0]) [.row true 1 .byte (letB (f, s, k, xs))])
  | _, _ => False
theorem s97 : Sound Tryz.prog 97 C97 := by
  refine sound_of_okF ok97 (Γ := [(74, C74), (58, C58), (106, C106), (63, C63)]) (.cons s74 (callable_of_okF ok74) (.cons s58 (callable_of_okF ok58) (.cons s106 (callable_of_okF ok106) (.cons s63 (callable_of_okF ok63) .nil)))) ?_
  intro args hp K h
  unfold C97 at h
  split at h
  · rename_i f s k p xs
    obtain ⟨h1, h2, h⟩ := h
    refine ⟨by simp, [], ?_⟩
    simp (maxSteps := 2000000) only [a97, r97, C74, C58, C106, C63, wrH, go_sem, eq_self, Nat.le_refl, Nat.reduceLeDiff, Nat.reduceSub, Nat.reduceLT, Nat.reduceBEq, Nat.reduceAdd]
    rw [decide_eq_true h1, decide_eq_true h2]
    exact ⟨by omega, by omega, h⟩
  · exact h.elim

theorem rdInts_length (n : Nat) (st : Option (List UInt8)) : (rdInts n st).1.length = n := by
  induction n with
  | zero => rfl
  | succ n ih => simp [rdInts, ih]
/-- take -/
def letK (r : Option LetT.den) (b : Bool) (st : SB) (K : SV → List SB → Prop) : Prop :=
  (r = none → K (.tup [.agg [.str ByteArray.empty, .int .u64 0, .int .i64 0, .nils], .bool false]) [st]) ∧
  (∀ l, r = some l → K (.tup [.agg [.str l.1, .int .u64 l.2.1, .int .i64 l.2.2.1, .own 1], .bool true]) [st, .row b 8 (.int .i64) l.2.2.2])
def C112 : Contract := fun args hp K => match args with
  | [.ptr 0 0] => onRd hp fun st => letK (rdLet st).1 true (rdH (rdLet st).2) K
  | _ => False
def L112 (f : ByteArray) (s k n : Int) (st : Option (List UInt8)) : LoopAnn := cntA (fun i => ⟨[(0, .ptr 0 0), (2, .ptr 1 0), (19, .int .u64 n), (20, .int .u64 i)], [rdH (rdInts i st).2, .struct [.str f, .int .u64 s, .int .i64 k, .own 2], .row true 8 (.int .i64) (rdInts i st).1]⟩) n.toNat
theorem s112 : Sound Tryz.prog 112 C112 := by
  refine sound_of_okF ok112 (Γ := [(67, C67), (65, C65), (110, C110), (93, C93), (74, C74)]) (.cons s67 (callable_of_okF ok67) (.cons s65 (callable_of_okF ok65) (.cons s110 (callable_of_okF ok110) (.cons s93 (callable_of_okF ok93) (.cons s74 (callable_of_okF ok74) .nil))))) ?_
  intro args hp K h
  unfold C112 at h
  split at h
  · obtain ⟨st, rfl, h⟩ := h
    refine ⟨by simp, [(1, L112 (rdText st).1 (rdNum (rdText st).2).1 (rdInt (rdNum (rdText st).2).2).1 (rdNum (rdInt (rdNum (rdText st).2).2).2).1 (rdNum (rdInt (rdNum (rdText st).2).2).2).2)], ?_⟩
    unfold rdH
    simp (maxSteps := 2000000) only [a112, r112, C67, C65, C110, rdH, go_sem, eq_self, Nat.le_refl, Nat.reduceLeDiff, Nat.reduceSub, Nat.reduceBEq, Nat.reduceAdd]
    intro _
    unfold rdLet at h
    simp only at h
    have hr0 := rdNum_in (rdInt (rdNum (rdText st).2).2).2
    generalize rdText st = a at *
    generalize rdNum a.2 = b at *
    generalize rdInt b.2 = c at *
    generalize rdNum c.2 = d at *
    rintro cc rfl
    refine sw_intro (fun hc => ?_) (fun hc => ?_) <;> simp only [decide_eq_true_eq, decide_eq_false_iff_not] at hc
    · rw [if_pos hc] at h
      exact h.1 rfl
    · rw [if_neg hc] at h
      refine loop_intro (A := L112 a.1 b.1 c.1 d.1 d.2) (0 : Nat) ?_ (Nat.zero_le _) ?_
      · simp (maxSteps := 2000000) only [L112, cntA_I, rdH, go_sem, Nat.reduceBEq, Nat.reduceAdd]
        rfl
      · intro (i : Nat) (hi : i ≤ d.1.toNat)
        simp (maxSteps := 2000000) only [L112, cntA_I, C110, C93, C74, rdH, go_sem, eq_self, and_self, Nat.le_refl, Nat.reduceLeDiff, Nat.reduceSub, Nat.reduceMul, Nat.reduceBEq, Nat.reduceAdd]
        have hlen := rdInts_length i d.2
        rintro cc rfl
        refine sw_intro (fun hc2 => ?_) (fun hc2 => ?_) <;> simp only [decide_eq_true_eq, decide_eq_false_iff_not] at hc2
        · refine ⟨fun _ => by omega, ?_⟩
          rintro _ _ _ m hm
          rw [wu64 (by omega)] at hm
          subst hm
          exact cntA_next (by omega) (by simp (maxSteps := 2000000) only [go_sem, Nat.reduceBEq, Nat.reduceAdd]; rfl)
        · have hi2 : i = d.1.toNat := by omega
          subst hi2
          generalize rdInts d.1.toNat d.2 = e at *
          refine sw_intro (fun hb => ?_) (fun hb => ?_)
          · rw [if_pos (.inl (by simpa using hb))] at h
            exact h.1 rfl
          · have hb' : ¬ e.2 = none := by intro h0; rw [h0] at hb; cases hb
            refine sw_intro (fun hb2 => ?_) (fun hb2 => ?_)
            · simp only [Bool.and_eq_true, decide_eq_true_eq] at hb2
              rw [if_neg (by rintro (h | h); exact hb' h; omega)] at h
              exact h.2 _ rfl
            · have hs : 40 < a.1.size := by
                simp only [Bool.and_eq_false_iff, decide_eq_false_iff_not] at hb2; omega
              rw [if_pos (.inr hs)] at h
              exact h.1 rfl
  · exact h.elim
/-- Decode -/
def decL (bs : List UInt8) : Option LetT.den := if (rdLet (some bs)).2 = some [] then (rdLet (some bs)).1 else none
def decK (n : Nat) (pre : List SB) (r : Option LetT.den) (K : SV → List SB → Prop) : Prop :=
  (r = none → K (.tup [.agg [.str ByteArray.empty, .int .u64 0, .int .i64 0, .nils], .int .i64 2]) pre) ∧
  (∀ l, r = some l → K (.tup [.agg [.str l.1, .int .u64 l.2.1, .int .i64 l.2.2.1, .own n], .int .i64 0]) (pre ++ [.row true 8 (.int .i64) l.2.2.2]))
def C94 : Contract := fun args hp K => match args, hp with
  | [.sl p 1 .byte bs], [] => decK 0 [] (decL bs) K
  | _, _ => False
theorem s94 : Sound Tryz.prog 94 C94 := by
  refine sound_of_okF ok94 (Γ := [(64, C64), (112, C112), (70, C70)]) (.cons s64 (callable_of_okF ok64) (.cons s112 (callable_of_okF ok112) (.cons s70 (callable_of_okF ok70) .nil))) ?_
  intro args hp K h
  unfold C94 at h
  split at h
  · rename_i p bs
    refine ⟨by simp, [], ?_⟩
    simp (maxSteps := 2000000) only [a94, r94, C64, C112, C70, rdH, letK, go_sem, eq_self, Nat.le_refl, Nat.reduceLeDiff, Nat.reduceSub, Nat.reduceLT, Nat.reduceBEq, Nat.reduceAdd]
    unfold decK decL at h
    refine ⟨fun h0 => h.1 (by rw [h0]; split <;> rfl), fun l hl => sw_intro (fun h1 => ?_) (fun h1 => ?_)⟩
    · exact h.2 l (by rw [if_pos (by simpa using h1)]; exact hl)
    · exact h.1 (by rw [if_neg (by simpa using h1)])
  · exact h.elim

end Go.V
namespace Go.V
set_option maxRecDepth 100000
set_option linter.unusedSimpArgs false
set_option linter.unnecessarySimpa false
set_option linter.unusedVariables false
theorem beB_succ (k n : Nat) : beB (k + 1) n = UInt8.ofNat (n / 256 ^ k) :: beB k n := by
  unfold beB
  rw [List.range_succ_eq_map, List.map_cons, List.map_map]
  congr 1
  apply List.map_congr_left
  intro j hj
  simp only [Function.comp]
  congr 3
  omega
theorem beN_beB' (n : Nat) : ∀ (k a : Nat), (beB k n).foldl (fun a b => a * 256 + b.toNat) a = a * 256 ^ k + n % 256 ^ k
  | 0, a => by simp [beB, Nat.mod_one]
  | k + 1, a => by
    rw [beB_succ, List.foldl_cons, beN_beB' n k]
    have h1 : (UInt8.ofNat (n / 256 ^ k)).toNat = n / 256 ^ k % 256 := by simp
    rw [h1, Nat.pow_succ, Nat.mod_mul, Nat.add_mul, Nat.mul_assoc, Nat.mul_comm 256 (256 ^ k), Nat.mul_comm (n / 256 ^ k % 256)]
    omega
theorem beN_beB {n k : Nat} (h : n < 256 ^ k) : beN (beB k n) = n := by
  have := beN_beB' n k 0
  rw [Nat.zero_mul, Nat.zero_add, Nat.mod_eq_of_lt h] at this
  exact this

theorem klen_hiN {n : Nat} (h : n ≤ 18446744073709551615) : n < 256 ^ klen n := by
  have := klen_hi (n := (n : Int)) (by omega)
  rw [Int.toNat_natCast] at this
  have e : ((256 : Int) ^ klen n) = ((256 ^ klen n : Nat) : Int) := by simp
  rw [e] at this
  omega
theorem klen_loN {n : Nat} (h : 256 ≤ n) : 256 ^ (klen n - 1) ≤ n := by
  have h2 : 2 ≤ klen n := by unfold klen; (repeat' split) <;> omega
  have := klen_lo (n := (n : Int)) (by omega) (klen n - 2) (by rw [Int.toNat_natCast]; omega)
  have e : ((256 : Int) ^ (klen n - 2 + 1)) = ((256 ^ (klen n - 1) : Nat) : Int) := by rw [show klen n - 2 + 1 = klen n - 1 by omega]; simp
  rw [e] at this
  omega
/-- How many bytes a number has is told by its size. -/
theorem klen_uniq {n k : Nat} (h1 : 1 ≤ k ∧ k ≤ 8) (h2 : n < 256 ^ k) (h3 : k = 1 ∨ 256 ^ (k - 1) ≤ n) : klen n = k := by
  have hk : k = 1 ∨ k = 2 ∨ k = 3 ∨ k = 4 ∨ k = 5 ∨ k = 6 ∨ k = 7 ∨ k = 8 := by omega
  rcases hk with rfl | rfl | rfl | rfl | rfl | rfl | rfl | rfl <;> simp at h2 h3 <;> unfold klen <;> (repeat' split) <;> omega

theorem numR_numB {n : Int} (h : 0 ≤ n ∧ n ≤ 18446744073709551615) (r : List UInt8) : numR (numB n ++ r) = some (n, r) := by
  obtain ⟨a, rfl⟩ := Int.eq_ofNat_of_zero_le h.1
  unfold numB
  by_cases h1 : (a : Int) < 248
  · rw [if_pos h1, Int.toNat_natCast]
    simp only [List.cons_append, List.nil_append, numR]
    have e : (UInt8.ofNat a).toNat = a := by simp; omega
    rw [e, if_pos (by omega)]
  · rw [if_neg h1, Int.toNat_natCast]
    have hk := klen_pos a
    simp only [List.cons_append, numR]
    have e : (UInt8.ofNat (247 + klen a)).toNat = 247 + klen a := by simp; omega
    have e2 : 247 + klen a - 247 = klen a := by omega
    have hl : (beB (klen a) a).length = klen a := beB_length _ _
    rw [e, e2, if_neg (by omega), if_neg (by rw [List.length_append, hl]; omega), List.take_append_of_le_length (by omega), List.take_of_length_le (by omega), beN_beB (klen_hiN (by omega)), List.drop_append_of_le_length (by omega), List.drop_of_length_le (by omega)]
    have hh : (beB (klen a) a ++ r).headD 0 ≠ 0 := by
      obtain ⟨k, hk2⟩ : ∃ k, klen a = k + 1 := ⟨klen a - 1, by omega⟩
      have hlo : 256 ^ k ≤ a := by
        by_cases h9 : 256 ≤ a
        · have := klen_loN h9; rw [hk2] at this; exact this
        · have : klen a = 1 := by unfold klen; rw [if_pos (by omega)]
          obtain rfl : k = 0 := by omega
          simp; omega
      have hhi := klen_hiN (n := a) (by omega)
      rw [hk2, Nat.pow_succ] at hhi
      rw [hk2, beB_succ]
      show UInt8.ofNat (a / 256 ^ k) ≠ 0
      intro h9
      have h10 : (UInt8.ofNat (a / 256 ^ k)).toNat = 0 := by rw [h9]; rfl
      have h11 : a / 256 ^ k % 256 = 0 := by simpa using h10
      have h12 : a / 256 ^ k < 256 := (Nat.div_lt_iff_lt_mul (Nat.pow_pos (by decide))).2 (by rw [Nat.mul_comm]; exact hhi)
      have h13 : 1 ≤ a / 256 ^ k := (Nat.one_le_div_iff (Nat.pow_pos (by decide))).2 hlo
      omega
    rw [if_neg (fun h9 => h9.elim (fun h9 => by omega) (fun h9 => hh h9))]
    rfl

theorem rdNum_numB {n : Int} (h : 0 ≤ n ∧ n ≤ 18446744073709551615) (r : List UInt8) : rdNum (some (numB n ++ r)) = (n, some r) := by
  simp only [rdNum, Option.bind_some, numR_numB h]

theorem beB_beN (l : List UInt8) : beB l.length (beN l) = l := by
  have key : ∀ (l : List UInt8) (a : Nat), beB l.length (l.foldl (fun a b => a * 256 + b.toNat) a) = l := by
    intro l
    induction l with
    | nil => intro a; rfl
    | cons x r ih =>
      intro a
      rw [List.foldl_cons, List.length_cons, beB_succ, ih]
      congr 1
      have h1 : ∀ (r : List UInt8) (a : Nat), r.foldl (fun a b => a * 256 + b.toNat) a / 256 ^ r.length = a := by
        intro r
        induction r with
        | nil => intro a; simp
        | cons y r ih2 =>
          intro a
          rw [List.foldl_cons, List.length_cons, Nat.pow_succ, ← Nat.div_div_eq_div_mul, ih2]
          have := y.toNat_lt
          omega
      rw [h1]
      apply UInt8.toNat_inj.1
      have := x.toNat_lt
      simp
  exact key l 0

/-- What was read of bytes is what is laid for it. -/
theorem numR_back {b : List UInt8} {n : Int} {r : List UInt8} (h : numR b = some (n, r)) : b = numB n ++ r ∧ 0 ≤ n ∧ n ≤ 18446744073709551615 := by
  unfold numR at h
  split at h
  · cases h
  · rename_i x r0
    have hx := x.toNat_lt
    by_cases h1 : x.toNat < 248
    · rw [if_pos h1] at h
      cases h
      refine ⟨?_, by omega, by omega⟩
      unfold numB
      rw [if_pos (by omega), Int.toNat_natCast]
      simp
    · rw [if_neg h1] at h
      by_cases h2 : r0.length < x.toNat - 247
      · rw [if_pos h2] at h; cases h
      · rw [if_neg h2] at h
        generalize hk : x.toNat - 247 = k at *
        split at h
        · cases h
        · rename_i h3
          cases h
          have hl : (r0.take k).length = k := by rw [List.length_take]; omega
          have hlt := beN_lt (r0.take k)
          rw [hl] at hlt
          have h8 : 256 ^ k ≤ 256 ^ 8 := Nat.pow_le_pow_right (by decide) (by omega)
          have h248 : 248 ≤ beN (r0.take k) := by
            rcases Nat.lt_or_ge (beN (r0.take k)) 248 with h | h
            · exact absurd (.inl h) h3
            · exact h
          refine ⟨?_, by omega, by omega⟩
          have hkl : klen (beN (r0.take k)) = k := by
            refine klen_uniq (by omega) hlt ?_
            rcases Nat.lt_or_ge 1 k with h1k | h1k
            · right
              have hb := beB_beN (r0.take k)
              rw [hl] at hb
              obtain ⟨j, rfl⟩ : ∃ j, k = j + 1 := ⟨k - 1, by omega⟩
              rw [beB_succ] at hb
              have hne : r0 ≠ [] := by intro e; rw [e] at h2; simp at h2
              obtain ⟨y, r1, rfl⟩ := List.exists_cons_of_ne_nil hne
              rw [List.take_succ_cons] at hb
              injection hb with hb1 _
              have hy0 : y ≠ 0 := fun e => h3 (.inr e)
              rcases Nat.lt_or_ge (beN ((y :: r1).take (j + 1))) (256 ^ j) with h9 | h9
              · exfalso
                rw [List.take_succ_cons] at h9
                rw [Nat.div_eq_of_lt h9] at hb1
                exact hy0 hb1.symm
              · exact h9
            · left; omega
          unfold numB
          rw [if_neg (by omega), Int.toNat_natCast, hkl]
          have hb := beB_beN (r0.take k)
          rw [hl] at hb
          rw [hb, List.cons_append, List.take_append_drop]
          have hx9 : UInt8.ofNat (247 + k) = x := by
            apply UInt8.toNat_inj.1
            simp
            omega
          rw [hx9]
theorem rdNum_back {st : Option (List UInt8)} {r : List UInt8} {n : Int} (h : rdNum st = (n, some r)) : st = some (numB n ++ r) ∧ 0 ≤ n ∧ n ≤ 18446744073709551615 := by
  cases st with
  | none => simp [rdNum] at h
  | some b =>
    unfold rdNum at h
    simp only [Option.bind_some] at h
    cases hn : numR b with
    | none => rw [hn] at h; simp at h
    | some x =>
      rw [hn] at h
      simp only [Prod.mk.injEq, Option.some.injEq] at h
      obtain ⟨h1, h2⟩ := h
      have := numR_back (n := n) (r := r) (by rw [hn, ← h1, ← h2])
      exact ⟨by rw [this.1], this.2⟩
theorem toList_toArrayB (s : ByteArray) : (⟨s.data.toList.toArray⟩ : ByteArray) = s := by cases s; simp
theorem szB (s : ByteArray) : s.data.toList.length = s.size := by rw [Array.length_toList]; rfl
theorem rdText_textB {s : ByteArray} (h : s.size ≤ 1000000000) (r : List UInt8) : rdText (some (textB s ++ r)) = (s, some r) := by
  have e : rdNum (some (textB s ++ r)) = ((s.size : Int), some (s.data.toList ++ r)) := by
    unfold textB
    rw [List.append_assoc, rdNum_numB (by omega)]
  have hl := szB s
  unfold rdText
  rw [e]
  simp only [Int.toNat_natCast]
  rw [if_neg (by rw [List.length_append]; omega), List.take_append_of_le_length (by omega), List.take_of_length_le (by omega), List.drop_append_of_le_length (by omega), List.drop_of_length_le (by omega), toList_toArrayB]
  rfl
theorem unz_zig (n : Int) : unz (zig n) = n := by unfold unz zig; split <;> split <;> omega
theorem zig_in {n : Int} (h : -9223372036854775808 ≤ n ∧ n ≤ 9223372036854775807) : 0 ≤ zig n ∧ zig n ≤ 18446744073709551615 := by unfold zig; split <;> omega
theorem rdInt_zig {n : Int} (h : -9223372036854775808 ≤ n ∧ n ≤ 9223372036854775807) (r : List UInt8) : rdInt (some (numB (zig n) ++ r)) = (n, some r) := by
  unfold rdInt
  rw [rdNum_numB (zig_in h), unz_zig]
theorem rdInts_intsB : ∀ (n : Nat) (xs : List Int), n ≤ xs.length → inI xs → ∀ r, rdInts n (some (intsB xs ++ r)) = (xs.take n, some (intsB (xs.drop n) ++ r))
  | 0, xs, _, _, r => by simp [rdInts]
  | n + 1, xs, hn, hi, r => by
    have ih := rdInts_intsB n xs (by omega) hi r
    have hlt : n < xs.length := by omega
    rw [rdInts, ih]
    have hd : xs.drop n = xs[n] :: xs.drop (n + 1) := List.drop_eq_getElem_cons hlt
    have e : intsB (xs.drop n) = numB (zig xs[n]) ++ intsB (xs.drop (n + 1)) := by rw [hd]; simp only [intsB, List.flatMap_cons]
    simp only [e, List.append_assoc]
    rw [rdInt_zig (hi _ (List.getElem_mem hlt)), List.take_append_getElem hlt]
/-- A letter that may be laid and read. -/
def okLet (l : LetT.den) : Prop := l.1.size ≤ 40 ∧ l.2.2.2.length ≤ 4 ∧ (0 ≤ l.2.1 ∧ l.2.1 ≤ 18446744073709551615) ∧ (-9223372036854775808 ≤ l.2.2.1 ∧ l.2.2.1 ≤ 9223372036854775807) ∧ inI l.2.2.2
theorem rdLet_letB {l : LetT.den} (h : okLet l) (r : List UInt8) : rdLet (some (letB l ++ r)) = (some l, some r) := by
  obtain ⟨h1, h2, h3, h4, h5⟩ := h
  unfold rdLet letB
  simp only [List.append_assoc]
  rw [rdText_textB (by omega), rdNum_numB h3]
  simp only
  rw [rdInt_zig h4]
  simp only
  rw [rdNum_numB (by omega)]
  simp only
  rw [if_neg (by omega), Int.toNat_natCast, rdInts_intsB _ _ (Nat.le_refl _) h5, List.take_length, List.drop_length]
  simp only [intsB, List.flatMap_nil, List.nil_append]
  rw [if_neg (fun h9 => h9.elim (fun h9 => by cases h9) (fun h9 => by omega))]
theorem decL_letB {l : LetT.den} (h : okLet l) : decL (letB l) = some l := by
  have := rdLet_letB h []
  rw [List.append_nil] at this
  unfold decL
  rw [this]
  rfl
end Go.V
