/- Hexadecimal and decimal digits, as the document reads them. -/
import Derived.Test.YtaeoiobjddknbaaDoorMS2
import Derived.Test.YtaeoiobjddknbaaDoorMN1
import Derived.Test.YtaeoiobjddknbaaDoorMA64
namespace Go.V
open Go.Proofs
set_option maxRecDepth 100000
set_option maxHeartbeats 4000000
set_option linter.unusedSimpArgs false
set_option linter.unnecessarySimpa false
set_option linter.unusedVariables false
def C65 : Contract := fun args hp K => match args, hp with
 | [.str s], [] => s.size ≤ 100000 ∧ (unhexF s = none → ∀ t : ByteArray, t.size ≤ 100000 → K (.tup [.str t, .bool false]) []) ∧ (∀ l, unhexF s = some l → K (.tup [.str (bsOf l), .bool (keyOk (bsOf l))]) [])
 | _, _ => False
def R65 (s : ByteArray) (g : U26) : Prop := 2 * g.i ≤ s.size ∧ g.l.length = g.i ∧ unhexF s = (unhexL (s.data.toList.drop (2 * g.i))).map (g.l ++ ·)
def L65 (s : ByteArray) : LoopAnn := { G := U26, I := fun g => ⟨[(0, .str s), (4, .own 0), (5, .int .i64 (2 * g.i : Nat))], [.row true 1 .byte g.l]⟩, R := fun _ g => R65 s g, μ := fun g => s.size - g.i }
theorem L65_I {s : ByteArray} (g : U26) : (L65 s).I g = ⟨[(0, .str s), (4, .own 0), (5, .int .i64 (2 * g.i : Nat))], [.row true 1 .byte g.l]⟩ := rfl
attribute [local irreducible] rc
theorem s65 : Sound Tryd.prog 65 C65 := by
  refine sound_of_okF ok65 (.cons s76 (callable_of_okF ok76) (.cons s39 (callable_of_okF ok39) .nil)) ?_
  intro args hp K h
  unfold C65 at h
  split at h
  · rename_i s
    obtain ⟨hs, hn, hk⟩ := h
    have hmx := maxLen_val
    have hl : s.data.toList.length = s.size := Array.length_toList
    refine ⟨by simp, [(1, L65 s)], ?_⟩
    simp (maxSteps:=9^9) only [a65, r65, go_sem, Int.reduceLT, Int.reduceLE, Int.reduceEq, Int.reduceNe, Int.reduceAdd, Int.reduceSub, Int.reduceMul, Int.reduceToNat, Int.reduceNeg, Nat.reduceEqDiff, Nat.reduceLeDiff, Nat.reduceSub, Nat.reduceMul, Nat.reduceLT, Nat.reduceBEq, Nat.reduceAdd]
    refine loop_intro (A := L65 s) (⟨0, []⟩ : U26) ?_ ⟨by simp, rfl, by simp [unhexF]⟩ ?_
    · simp (maxSteps:=9^9) only [go_sem, Int.reduceLT, Int.reduceLE, Int.reduceEq, Int.reduceNe, Int.reduceAdd, Int.reduceSub, Int.reduceMul, Int.reduceToNat, Int.reduceNeg, Nat.reduceEqDiff, Nat.reduceLeDiff, Nat.reduceSub, Nat.reduceMul, Nat.reduceLT, Nat.reduceBEq, Nat.reduceAdd]
      rfl
    · rintro (⟨i, l⟩ : U26) (⟨g1, g2, g3⟩ : R65 s ⟨i, l⟩)
      simp only at g1 g2 g3
      simp (maxSteps:=9^9) only [L65_I, C76, C39, go_sem, Int.reduceLT, Int.reduceLE, Int.reduceEq, Int.reduceNe, Int.reduceAdd, Int.reduceSub, Int.reduceMul, Int.reduceToNat, Int.reduceNeg, Nat.reduceEqDiff, Nat.reduceLeDiff, Nat.reduceSub, Nat.reduceMul, Nat.reduceLT, Nat.reduceBEq, Nat.reduceAdd]
      rintro _ _ n0 hn0 _ _ rfl c hc
      rw [w64 (by omega)] at hn0
      refine swd hc (fun hlt => ?_) (fun hlt => ?_)
      · refine nd_intro (by omega) ?_
        rintro m hm _ _ n1 hn1
        rw [w64 (by omega)] at hn1
        refine nd_intro (by omega) ?_
        rintro m2 hm2
        have e1 : n1.toNat = 2 * i + 1 := by omega
        rw [e1] at hm2 ⊢
        generalize ea : s.data.toList.getD (2 * i) 0 = a at hm
        generalize eb : s.data.toList.getD (2 * i + 1) 0 = b at hm2 ⊢
        have hu := unhexL_two s.data.toList i (by omega)
        rw [ea, eb] at hu
        rw [hu] at g3
        have la := UInt8.toNat_lt a
        have lb := UInt8.toNat_lt b
        have ua : UInt8.ofNat m.toNat = a := by rw [hm]; exact u8_back a
        have ub : UInt8.ofNat m2.toNat = b := by rw [hm2]; exact u8_back b
        rw [ua, ub]
        refine ⟨by omega, ⟨fun _ _ m hm => by rw [hm, w64 (by omega), hn1], nd_intro (by omega) (fun m hm => by rw [hm, hm2])⟩, by omega, ?_⟩
        intro c3 hc3
        refine swd hc3 (fun hx => hn ?_ _ (by decide)) (fun hx => ?_)
        · rw [g3]
          have : digV a = none := digI_neg hx
          rw [this]
          rfl
        · intro c4 hc4
          obtain ⟨x1, ex⟩ := digI_pos hx
          refine swd hc4 (fun hy => hn ?_ _ (by decide)) (fun hy => ?_)
          · rw [g3]
            have : digV b = none := digI_neg hy
            rw [this, ex]
            rfl
          · obtain ⟨y1, ey⟩ := digI_pos hy
            have lx := digV_lt ex
            have ly := digV_lt ey
            have dx : digI a = (x1 : Int) := by unfold digI; rw [ex]
            have dy : digI b = (y1 : Int) := by unfold digI; rw [ey]
            rw [dx, dy]
            rintro _ _ n3 hn3 _ _ n4 hn4 _ n5 hn5
            rw [w64 (by omega)] at hn3
            rw [w64 (by omega)] at hn4
            rw [wu8 (by omega)] at hn5
            rw [ex, ey] at g3
            refine ⟨fun _ => by omega, ?_⟩
            rintro _ _ _ n6 hn6
            rw [w64 (by omega)] at hn6
            have e7 : n5.toNat = 16 * x1 + y1 := by omega
            rw [hn6, e7]
            refine lpE_intro (A := L65 s) (⟨i + 1, l ++ [UInt8.ofNat (16 * x1 + y1)]⟩ : U26) ?_ ⟨by show 2 * (i + 1) ≤ s.size; omega, by simp [← g2], ?_⟩ (by show s.size - (i + 1) < s.size - i; omega)
            · rw [L65_I]
              have e8 : ((2 * i : Nat) : Int) + 2 = ((2 * (i + 1) : Nat) : Int) := by omega
              rw [e8]
              rfl
            · rw [g3]
              simp only [Option.map_map]
              apply congrArg (fun f => Option.map f _)
              funext z
              simp
      · rintro u rfl _ _ rfl _ _ n1 hn1 c3 hc3
        rw [Int.tmod_eq_emod_of_nonneg (by omega)] at hn1
        have hll : (l.toArray).size ≤ 100000 := by simp; omega
        refine swd hc3 (fun hz => ?_) (fun hz => ?_)
        · rintro u rfl
          refine ⟨fun u hu => by rw [hu], ?_⟩
          have e9 : s.data.toList.drop (2 * i) = [] := List.drop_of_length_le (by omega)
          rw [e9] at g3
          have hf := hk _ g3
          simp only [List.append_nil] at hf
          exact hf
        · refine hn ?_ _ hll
          cases hu : unhexF s with
          | none => rfl
          | some r =>
            have := unhexL_len _ _ hu
            omega
  · exact h.elim
theorem head_48 {l : List UInt8} (h : 0 < l.length) : l.head? = some 48 ↔ ((l.getD 0 0).toNat : Int) = 48 := by
 cases l with
 | nil => simp at h
 | cons c r =>
  simp only [List.head?_cons, Option.some.injEq, List.getD_cons_zero]
  constructor
  ·rintro rfl; rfl
  ·intro h
   have : c.toNat = (48 : UInt8).toNat := by simp; omega
   exact UInt8.toNat.inj this
def C77 : Contract := fun args hp K => match args, hp with
 | [.str s], [] => s.size ≤ 100000 ∧ (natF s.data.toList = none → K (.tup [.int .u64 0, .bool false]) []) ∧ (∀ n : Nat, natF s.data.toList = some n → K (.tup [.int .u64 n, .bool true]) [])
 | _, _ => False
structure U77 where
 i : Nat
 n : Nat
def L77 (s : ByteArray) : LoopAnn := { G := U77, I := fun g => ⟨[(0, .str s), (4, .int .u64 g.n), (5, .int .i64 g.i)], []⟩, R := fun _ g => (g.i ≤ s.size ∧ g.n ≤ 18446744073709551615) ∧ natGo s.data.toList 0 = natGo (s.data.toList.drop g.i) g.n, μ := fun g => s.size - g.i }
theorem L77_I {s : ByteArray} (g : U77) : (L77 s).I g = ⟨[(0, .str s), (4, .int .u64 g.n), (5, .int .i64 g.i)], []⟩ := rfl
theorem s77 : Sound Tryd.prog 77 C77 := by
  refine sound_of_okF ok77 .nil ?_
  intro args hp K h
  unfold C77 at h
  split at h
  · rename_i s
    obtain ⟨hs, hn, hk⟩ := h
    have hmx := maxLen_val
    have hl : s.data.toList.length = s.size := Array.length_toList
    refine ⟨by simp, [(1, L77 s)], ?_⟩
    simp (maxSteps:=9^9) only [a77, r77, go_sem, Int.reduceLT, Int.reduceLE, Int.reduceEq, Int.reduceNe, Int.reduceAdd, Int.reduceSub, Int.reduceMul, Int.reduceToNat, Int.reduceNeg, Nat.reduceEqDiff, Nat.reduceLeDiff, Nat.reduceSub, Nat.reduceMul, Nat.reduceLT, Nat.reduceBEq, Nat.reduceAdd]
    rintro _ _ rfl c hc
    refine swd hc (fun h0 => hn ?_) (fun h0 => ?_)
    · unfold natF
      rw [if_pos (.inl (List.length_eq_zero_iff.1 (by omega)))]
    · rintro _ _ rfl c2 hc2
      refine swd hc2 (fun h1 => nd_intro (by omega) ?_) (fun h1 => ?_)
      · intro m hm c3 hc3
        refine swd hc3 (fun h2 => hn ?_) (fun h2 => ?_)
        · unfold natF
          rw [if_pos (.inr ⟨by omega, (head_48 (by omega)).2 (by omega)⟩)]
        · have hN : natF s.data.toList = natGo s.data.toList 0 := by
            unfold natF
            rw [if_neg]
            rintro (h | ⟨_, h⟩)
            · rw [h] at hl; simp at hl; omega
            · have := (head_48 (l := s.data.toList) (by omega)).1 h
              omega
          refine loop_intro (A := L77 s) (⟨0, 0⟩ : U77) ?_ ⟨⟨by simp, by simp⟩, rfl⟩ ?_
          · simp (maxSteps:=9^9) only [go_sem, Int.reduceLT, Int.reduceLE, Int.reduceEq, Int.reduceNe, Int.reduceAdd, Int.reduceSub, Int.reduceMul, Int.reduceToNat, Int.reduceNeg, Nat.reduceEqDiff, Nat.reduceLeDiff, Nat.reduceSub, Nat.reduceMul, Nat.reduceLT, Nat.reduceBEq, Nat.reduceAdd]
            rfl
          · rintro (⟨i, n⟩ : U77) (⟨⟨g1, g2⟩, g3⟩ : (i ≤ s.size ∧ n ≤ 18446744073709551615) ∧ natGo s.data.toList 0 = natGo (s.data.toList.drop i) n)
            simp (maxSteps:=9^9) only [L77_I, go_sem, Int.reduceLT, Int.reduceLE, Int.reduceEq, Int.reduceNe, Int.reduceAdd, Int.reduceSub, Int.reduceMul, Int.reduceToNat, Int.reduceNeg, Nat.reduceEqDiff, Nat.reduceLeDiff, Nat.reduceSub, Nat.reduceMul, Nat.reduceLT, Nat.reduceBEq, Nat.reduceAdd]
            rintro _ _ rfl c4 hc4
            refine swd hc4 (fun hlt => ?_) (fun hlt => ?_)
            · have hlt' : i < s.size := by omega
              have hd : s.data.toList.drop i = s.data.toList.getD i 0 :: s.data.toList.drop (i + 1) := by
                rw [List.drop_eq_getElem_cons (by omega), getD_eq (by omega)]
              rw [hd] at g3
              generalize s.data.toList.getD i 0 = a at g3 ⊢
              have la := UInt8.toNat_lt a
              simp only [natGo] at g3
              refine nd_intro hlt' ?_
              rintro m6 rfl c5 hc5
              refine swd hc5 (fun h5 => hn ?_) (fun h5 => ?_)
              · rw [hN, g3, if_neg (by omega)]
              · refine nd_intro hlt' ?_
                rintro _ rfl c6 hc6
                refine swd hc6 (fun h6 => hn ?_) (fun h6 => ?_)
                · rw [hN, g3, if_neg (by omega)]
                · rw [if_pos (by omega)] at g3
                  refine nd_intro hlt' ?_
                  rintro _ rfl _ _ m7 hm7 _ m8 hm8 _ _ m9 hm9 _ _ m10 hm10 c7 hc7
                  rw [wu8 (by omega)] at hm7
                  rw [wu64 (by omega)] at hm8
                  rw [wu64 (by omega)] at hm9
                  rw [Int.tdiv_eq_ediv_of_nonneg (by omega), wu64 (by omega)] at hm10
                  refine swd hc7 (fun h7 => hn ?_) (fun h7 => ?_)
                  · rw [hN, g3, if_pos (by omega)]
                  · rw [if_neg (by omega)] at g3
                    rintro _ _ m11 hm11 _ _ m12 hm12 _ _ m13 hm13
                    rw [wu64 (by omega)] at hm11
                    rw [wu64 (by omega)] at hm12
                    rw [w64 (by omega)] at hm13
                    refine lpE_intro (A := L77 s) (⟨i + 1, 10 * n + (a.toNat - 48)⟩ : U77) ?_ ⟨⟨by show i + 1 ≤ s.size; omega, by show 10 * n + (a.toNat - 48) ≤ 18446744073709551615; omega⟩, g3⟩ (by show s.size - (i + 1) < s.size - i; omega)
                    rw [L77_I]
                    have e8 : m12 = ((10 * n + (a.toNat - 48) : Nat) : Int) := by omega
                    have e9 : m13 = ((i + 1 : Nat) : Int) := by omega
                    rw [e8, e9]
                    rfl
            · rw [List.drop_of_length_le (by omega)] at g3
              exact hk n (hN.trans g3)
      · have hN : natF s.data.toList = natGo s.data.toList 0 := by
          unfold natF
          rw [if_neg]
          rintro (h | ⟨h, _⟩)
          · rw [h] at hl; simp at hl; omega
          · omega
        refine loop_intro (A := L77 s) (⟨0, 0⟩ : U77) ?_ ⟨⟨by simp, by simp⟩, rfl⟩ ?_
        · simp (maxSteps:=9^9) only [go_sem, Int.reduceLT, Int.reduceLE, Int.reduceEq, Int.reduceNe, Int.reduceAdd, Int.reduceSub, Int.reduceMul, Int.reduceToNat, Int.reduceNeg, Nat.reduceEqDiff, Nat.reduceLeDiff, Nat.reduceSub, Nat.reduceMul, Nat.reduceLT, Nat.reduceBEq, Nat.reduceAdd]
          rfl
        · rintro (⟨i, n⟩ : U77) (⟨⟨g1, g2⟩, g3⟩ : (i ≤ s.size ∧ n ≤ 18446744073709551615) ∧ natGo s.data.toList 0 = natGo (s.data.toList.drop i) n)
          simp (maxSteps:=9^9) only [L77_I, go_sem, Int.reduceLT, Int.reduceLE, Int.reduceEq, Int.reduceNe, Int.reduceAdd, Int.reduceSub, Int.reduceMul, Int.reduceToNat, Int.reduceNeg, Nat.reduceEqDiff, Nat.reduceLeDiff, Nat.reduceSub, Nat.reduceMul, Nat.reduceLT, Nat.reduceBEq, Nat.reduceAdd]
          rintro _ _ rfl c4 hc4
          refine swd hc4 (fun hlt => ?_) (fun hlt => ?_)
          · have hlt' : i < s.size := by omega
            have hd : s.data.toList.drop i = s.data.toList.getD i 0 :: s.data.toList.drop (i + 1) := by
              rw [List.drop_eq_getElem_cons (by omega), getD_eq (by omega)]
            rw [hd] at g3
            generalize s.data.toList.getD i 0 = a at g3 ⊢
            have la := UInt8.toNat_lt a
            simp only [natGo] at g3
            refine nd_intro hlt' ?_
            rintro m6 rfl c5 hc5
            refine swd hc5 (fun h5 => hn ?_) (fun h5 => ?_)
            · rw [hN, g3, if_neg (by omega)]
            · refine nd_intro hlt' ?_
              rintro _ rfl c6 hc6
              refine swd hc6 (fun h6 => hn ?_) (fun h6 => ?_)
              · rw [hN, g3, if_neg (by omega)]
              · rw [if_pos (by omega)] at g3
                refine nd_intro hlt' ?_
                rintro _ rfl _ _ m7 hm7 _ m8 hm8 _ _ m9 hm9 _ _ m10 hm10 c7 hc7
                rw [wu8 (by omega)] at hm7
                rw [wu64 (by omega)] at hm8
                rw [wu64 (by omega)] at hm9
                rw [Int.tdiv_eq_ediv_of_nonneg (by omega), wu64 (by omega)] at hm10
                refine swd hc7 (fun h7 => hn ?_) (fun h7 => ?_)
                · rw [hN, g3, if_pos (by omega)]
                · rw [if_neg (by omega)] at g3
                  rintro _ _ m11 hm11 _ _ m12 hm12 _ _ m13 hm13
                  rw [wu64 (by omega)] at hm11
                  rw [wu64 (by omega)] at hm12
                  rw [w64 (by omega)] at hm13
                  refine lpE_intro (A := L77 s) (⟨i + 1, 10 * n + (a.toNat - 48)⟩ : U77) ?_ ⟨⟨by show i + 1 ≤ s.size; omega, by show 10 * n + (a.toNat - 48) ≤ 18446744073709551615; omega⟩, g3⟩ (by show s.size - (i + 1) < s.size - i; omega)
                  rw [L77_I]
                  have e8 : m12 = ((10 * n + (a.toNat - 48) : Nat) : Int) := by omega
                  have e9 : m13 = ((i + 1 : Nat) : Int) := by omega
                  rw [e8, e9]
                  rfl
          · rw [List.drop_of_length_le (by omega)] at g3
            exact hk n (hN.trans g3)
  · exact h.elim
theorem use77 {s : ByteArray} {K : SV → List SB → Prop} (hs : s.size ≤ 100000) (h1 : natF s.data.toList = none → K (.tup [.int .u64 0, .bool false]) []) (h2 : ∀ n : Nat, natF s.data.toList = some n → n ≤ 18446744073709551615 → K (.tup [.int .u64 n, .bool true]) []) : C77 [.str s] [] K :=
 ⟨hs, h1, fun n hn => h2 n hn (parse_natF hn).2⟩
theorem head_45 {l : List UInt8} (h : 0 < l.length) : l.head? = some 45 ↔ ((l.getD 0 0).toNat : Int) = 45 := by
 cases l with
 | nil => simp at h
 | cons c r =>
  simp only [List.head?_cons, Option.some.injEq, List.getD_cons_zero]
  constructor
  ·rintro rfl; rfl
  ·intro h
   have : c.toNat = (45 : UInt8).toNat := by simp; omega
   exact UInt8.toNat.inj this
theorem wneg {n : Nat} (h0 : 0 < n) (h1 : n ≤ 9223372036854775808) : IntKind.u64.wrap (0 - (n : Int)) = 18446744073709551616 - (n : Int) := by
 unfold IntKind.wrap
 simp only [IntKind.signed, IntKind.bits]
 simp
 omega
theorem wback {n : Nat} (h0 : 0 < n) (h1 : n ≤ 9223372036854775808) : IntKind.i64.wrap (18446744073709551616 - (n : Int)) = -(n : Int) := by
 unfold IntKind.wrap
 simp only [IntKind.signed, IntKind.bits]
 simp
 omega
def C66 : Contract := fun args hp K => match args, hp with
 | [.str s], [] => s.size ≤ 100000 ∧ (numI s.data.toList = none → K (.tup [.int .i64 0, .bool false]) []) ∧ (∀ n : Int, numI s.data.toList = some n → K (.tup [.int .i64 n, .bool true]) [])
 | _, _ => False
theorem s66 : Sound Tryd.prog 66 C66 := by
 refine sound_of_okF ok66 (.cons s77 (callable_of_okF ok77) .nil) ?_
 intro args hp K h
 unfold C66 at h
 split at h
 ·rename_i s
  obtain ⟨hs, hn, hk⟩ := h
  have hmx := maxLen_val
  have hl : s.data.toList.length = s.size := Array.length_toList
  refine ⟨by simp, [], ?_⟩
  simp (maxSteps:=9^9) only [a66, r66, go_sem, Int.reduceLT, Int.reduceLE, Int.reduceEq, Int.reduceNe, Int.reduceAdd, Int.reduceSub, Int.reduceMul, Int.reduceToNat, Int.reduceNeg, Nat.reduceEqDiff, Nat.reduceLeDiff, Nat.reduceSub, Nat.reduceMul, Nat.reduceLT, Nat.reduceBEq, Nat.reduceAdd]
  rintro _ _ rfl c hc
  refine swd hc (fun h0 => ?_) (fun h0 => ?_)
  ·refine nd_intro (by omega) ?_
   rintro m hm c2 hc2
   by_cases h1 : m = 45
   ·obtain rfl : c2 = true := by rw [hc2]; exact decide_eq_true h1
    have hI : numI s.data.toList = (natF s.data.toList.tail).bind fun n => if n = 0 ∨ 9223372036854775808 < n then none else some (-(n : Int)) := by
     unfold numI
     rw [if_pos ((head_45 (by omega)).2 (by omega))]
    simp (maxSteps:=9^9) only [go_sem, Int.reduceLT, Int.reduceLE, Int.reduceEq, Int.reduceNe, Int.reduceAdd, Int.reduceSub, Int.reduceMul, Int.reduceToNat, Int.reduceNeg, Nat.reduceEqDiff, Nat.reduceLeDiff, Nat.reduceSub, Nat.reduceMul, Nat.reduceLT, Nat.reduceBEq, Nat.reduceAdd]
    refine nd_intro (by omega) ?_
    rintro u hu
    have hu2 : u.data.toList = s.data.toList.tail := by
     rw [hu, Go.Lib.extract_data]
     simp
     rw [List.take_of_length_le (by simp)]
    refine use77 (by have := congrArg List.length hu2; simp only [List.length_tail] at this; have e : u.data.toList.length = u.size := Array.length_toList; omega) (fun hn2 => ?_) (fun n hn2 hle => ?_)
    ·simp (maxSteps:=9^9) only [go_sem, Int.reduceLT, Int.reduceLE, Int.reduceEq, Int.reduceNe, Int.reduceAdd, Int.reduceSub, Int.reduceMul, Int.reduceToNat, Int.reduceNeg, Nat.reduceEqDiff, Nat.reduceLeDiff, Nat.reduceSub, Nat.reduceMul, Nat.reduceLT, Nat.reduceBEq, Nat.reduceAdd]
     refine hn ?_
     rw [hI, ← hu2, hn2]
     rfl
    ·simp (maxSteps:=9^9) only [go_sem, Int.reduceLT, Int.reduceLE, Int.reduceEq, Int.reduceNe, Int.reduceAdd, Int.reduceSub, Int.reduceMul, Int.reduceToNat, Int.reduceNeg, Nat.reduceEqDiff, Nat.reduceLeDiff, Nat.reduceSub, Nat.reduceMul, Nat.reduceLT, Nat.reduceBEq, Nat.reduceAdd]
     rw [hu2] at hn2
     rw [hn2] at hI
     simp only [Option.bind_some] at hI
     intro c3 hc3
     refine swd hc3 (fun h3 => hn ?_) (fun h3 => ?_)
     ·rw [hI, if_pos (.inl (by omega))]
     ·intro c4 hc4
      refine swd hc4 (fun h4 => hn ?_) (fun h4 => ?_)
      ·rw [hI, if_pos (.inr (by omega))]
      ·rintro _ m3 hm3 _ m4 hm4
       rw [wneg (by omega) (by omega)] at hm3
       rw [hm3, wback (by omega) (by omega)] at hm4
       rw [hm4]
       rw [if_neg (by omega)] at hI
       exact hk _ hI
   ·obtain rfl : c2 = false := by rw [hc2]; exact decide_eq_false h1
    simp (maxSteps:=9^9) only [go_sem, Int.reduceLT, Int.reduceLE, Int.reduceEq, Int.reduceNe, Int.reduceAdd, Int.reduceSub, Int.reduceMul, Int.reduceToNat, Int.reduceNeg, Nat.reduceEqDiff, Nat.reduceLeDiff, Nat.reduceSub, Nat.reduceMul, Nat.reduceLT, Nat.reduceBEq, Nat.reduceAdd]
    have hI : numI s.data.toList = (natF s.data.toList).bind fun n => if 9223372036854775807 < n then none else some (n : Int) := by
     unfold numI
     rw [if_neg (fun h => h1 (by have := (head_45 (l := s.data.toList) (by omega)).1 h; omega))]
    refine use77 hs (fun hn2 => ?_) (fun n hn2 hle => ?_)
    ·simp (maxSteps:=9^9) only [go_sem, Int.reduceLT, Int.reduceLE, Int.reduceEq, Int.reduceNe, Int.reduceAdd, Int.reduceSub, Int.reduceMul, Int.reduceToNat, Int.reduceNeg, Nat.reduceEqDiff, Nat.reduceLeDiff, Nat.reduceSub, Nat.reduceMul, Nat.reduceLT, Nat.reduceBEq, Nat.reduceAdd]
     refine hn ?_
     rw [hI, hn2]
     rfl
    ·simp (maxSteps:=9^9) only [go_sem, Int.reduceLT, Int.reduceLE, Int.reduceEq, Int.reduceNe, Int.reduceAdd, Int.reduceSub, Int.reduceMul, Int.reduceToNat, Int.reduceNeg, Nat.reduceEqDiff, Nat.reduceLeDiff, Nat.reduceSub, Nat.reduceMul, Nat.reduceLT, Nat.reduceBEq, Nat.reduceAdd]
     rw [hn2] at hI
     simp only [Option.bind_some] at hI
     intro c4 hc4
     refine swd hc4 (fun h4 => hn ?_) (fun h4 => ?_)
     ·rw [hI, if_pos (by omega)]
     ·rw [if_neg (by omega)] at hI
      intro _ m5 hm5
      rw [w64 (by omega)] at hm5
      rw [hm5]
      exact hk _ hI
  ·have hI : numI s.data.toList = (natF s.data.toList).bind fun n => if 9223372036854775807 < n then none else some (n : Int) := by
    unfold numI
    rw [if_neg (fun h => by rw [List.length_eq_zero_iff.1 (show s.data.toList.length = 0 by omega)] at h; cases h)]
   refine use77 hs (fun hn2 => ?_) (fun n hn2 hle => ?_)
   ·simp (maxSteps:=9^9) only [go_sem, Int.reduceLT, Int.reduceLE, Int.reduceEq, Int.reduceNe, Int.reduceAdd, Int.reduceSub, Int.reduceMul, Int.reduceToNat, Int.reduceNeg, Nat.reduceEqDiff, Nat.reduceLeDiff, Nat.reduceSub, Nat.reduceMul, Nat.reduceLT, Nat.reduceBEq, Nat.reduceAdd]
    refine hn ?_
    rw [hI, hn2]
    rfl
   ·simp (maxSteps:=9^9) only [go_sem, Int.reduceLT, Int.reduceLE, Int.reduceEq, Int.reduceNe, Int.reduceAdd, Int.reduceSub, Int.reduceMul, Int.reduceToNat, Int.reduceNeg, Nat.reduceEqDiff, Nat.reduceLeDiff, Nat.reduceSub, Nat.reduceMul, Nat.reduceLT, Nat.reduceBEq, Nat.reduceAdd]
    rw [hn2] at hI
    simp only [Option.bind_some] at hI
    intro c4 hc4
    refine swd hc4 (fun h4 => hn ?_) (fun h4 => ?_)
    ·rw [hI, if_pos (by omega)]
    ·rw [if_neg (by omega)] at hI
     intro _ m5 hm5
     rw [w64 (by omega)] at hm5
     rw [hm5]
     exact hk _ hI
 ·exact h.elim
end Go.V
namespace Go.V
set_option linter.unusedSimpArgs false
set_option linter.unnecessarySimpa false
set_option linter.unusedVariables false
set_option maxRecDepth 100000
def wordB (j : Nat) : ByteArray := (elt WdT opT j).1
def wordL (j : Nat) : List UInt8 := (wordB j).data.toList
def opFind (w : List UInt8) : Option Nat := (List.range 24).find? (fun j => wordL j == w)
def instrF (l : List UInt8) : Option (Int × Int) :=
 match opFind (l.takeWhile (· != 32)) with
 | none => none
 | some j => if opK j = 0 then (if l.contains 32 then none else some ((j : Int), 0)) else if l.contains 32 then (numI ((l.dropWhile (· != 32)).drop 1)).map (fun n => ((j : Int), n)) else none
theorem word_no : ∀ j, j < 24 → (wordL j).contains 32 = false := by decide +kernel
theorem word_ne : ∀ j, j < 24 → ∀ k, k < 24 → wordL j = wordL k → j = k := by decide +kernel
theorem opFind_some {w : List UInt8} {j : Nat} (h : opFind w = some j) : j < 24 ∧ wordL j = w := by
 unfold opFind at h
 have h1 := List.find?_some h
 have h2 := List.mem_of_find?_eq_some h
 exact ⟨List.mem_range.1 h2, by simpa using h1⟩
theorem opFind_word {j : Nat} (h : j < 24) : opFind (wordL j) = some j := by
 cases hf : opFind (wordL j) with
 | none =>
  unfold opFind at hf
  have := List.find?_eq_none.1 hf j (List.mem_range.2 h)
  simp at this
 | some k =>
  obtain ⟨h1, h2⟩ := opFind_some hf
  rw [word_ne k h1 j h h2]
theorem opFind_none {w : List UInt8} (h : ∀ j, j < 24 → wordL j ≠ w) : opFind w = none := by
 unfold opFind
 rw [List.find?_eq_none]
 intro j hj
 simpa using h j (List.mem_range.1 hj)
def opM (l : List UInt8) (j : Nat) : Bool := if opK j = 0 then decide (l = wordL j) else (wordL j ++ [32]).isPrefixOf l
theorem take_no {w : List UInt8} (h : w.contains 32 = false) (r : List UInt8) : (w ++ 32 :: r).takeWhile (· != 32) = w ∧ (w ++ 32 :: r).dropWhile (· != 32) = 32 :: r := by
 induction w with
 | nil => simp [List.takeWhile_cons, List.dropWhile_cons]
 | cons c w ih =>
  simp only [List.contains_cons, Bool.or_eq_false_iff] at h
  obtain ⟨i1, i2⟩ := ih h.2
  have hc : (c != 32) = true := by
   have := h.1
   simp only [bne_iff_ne, ne_eq]
   intro e
   rw [e] at this
   simp at this
  constructor
  ·rw [List.cons_append, List.takeWhile_cons, if_pos hc, i1]
  ·rw [List.cons_append, List.dropWhile_cons, if_pos hc, i2]
theorem take_all {w : List UInt8} (h : w.contains 32 = false) : w.takeWhile (· != 32) = w := by
 induction w with
 | nil => rfl
 | cons c w ih =>
  simp only [List.contains_cons, Bool.or_eq_false_iff] at h
  have hc : (c != 32) = true := by
   have := h.1
   simp only [bne_iff_ne, ne_eq]
   intro e
   rw [e] at this
   simp at this
  rw [List.takeWhile_cons, if_pos hc, ih h.2]
theorem opM_instr {l : List UInt8} {j : Nat} (hj : j < 24) (h : opM l j = true) : instrF l = if opK j = 0 then some ((j : Int), 0) else (numI (l.drop ((wordL j).length + 1))).map (fun n => ((j : Int), n)) := by
 unfold opM at h
 unfold instrF
 have hw := word_no j hj
 split at h
 ·rename_i hk
  have hl : l = wordL j := of_decide_eq_true h
  rw [hl, take_all hw, opFind_word hj]
  simp only [hk, hw, if_true, Bool.false_eq_true, if_false]
 ·rename_i hk
  obtain ⟨r, hr⟩ := List.isPrefixOf_iff_prefix.1 h
  have hl : l = wordL j ++ 32 :: r := by rw [← hr]; simp
  obtain ⟨t1, t2⟩ := take_no hw r
  rw [hl, t1, t2, opFind_word hj]
  have hc : (wordL j ++ 32 :: r).contains 32 = true := by simp
  simp only [hk, hc, if_true, if_false]
  have e : (wordL j ++ 32 :: r).drop ((wordL j).length + 1) = r := by
   rw [← List.drop_drop]
   simp
  rw [e]
  rfl
theorem split_32 : ∀ {l : List UInt8}, l.contains 32 = true → ∃ r, l = l.takeWhile (· != 32) ++ 32 :: r
 | [], h => by simp at h
 | c :: l, h => by
  by_cases hc : c = 32
  ·subst hc
   exact ⟨l, by simp [List.takeWhile_cons]⟩
  ·have h1 : (c != 32) = true := by simpa using hc
   have h2 : l.contains 32 = true := by
    rw [List.contains_cons, Bool.or_eq_true] at h
    rcases h with h | h
    ·exact absurd (by simpa using h : (32 : UInt8) = c) (fun e => hc e.symm)
    ·exact h
   obtain ⟨r, hr⟩ := split_32 h2
   exact ⟨r, by rw [List.takeWhile_cons, if_pos h1, List.cons_append, ← hr]⟩
theorem opM_none {l : List UInt8} (h : ∀ j, j < 24 → opM l j = false) : instrF l = none := by
 unfold instrF
 cases hf : opFind (l.takeWhile (· != 32)) with
 | none => rfl
 | some j =>
  obtain ⟨h1, h2⟩ := opFind_some hf
  have hm := h j h1
  unfold opM at hm
  simp only
  split
  ·rename_i hk
   rw [if_pos hk] at hm
   split
   ·rfl
   ·rename_i hc
    have hc' : l.contains 32 = false := by simpa using hc
    rw [take_all hc'] at h2
    exact absurd h2.symm (of_decide_eq_false hm)
  ·rename_i hk
   rw [if_neg hk] at hm
   split
   ·rename_i hc
    obtain ⟨r, hr⟩ := split_32 hc
    exfalso
    have : (wordL j ++ [32]).isPrefixOf l = true := by
     rw [List.isPrefixOf_iff_prefix]
     exact ⟨r, by rw [h2, List.append_assoc]; exact hr.symm⟩
    rw [this] at hm
    cases hm
   ·rfl
def nameL : List UInt8 := [110, 97, 109, 101, 32]
def lineF (l : List UInt8) : Option (ByteArray ⊕ (Int × Int)) :=
 if nameL.isPrefixOf l then (unhexL (l.drop 5)).bind fun k => if keyOk (bsOf k) then some (.inl (bsOf k)) else none
 else (instrF l).map .inr
inductive PR where
 | bad (i : Int)
 | fin (ns : List ByteArray) (cs : List EvT.den) (late : Bool)
def parseGo : List (List UInt8) → Int → List ByteArray → List EvT.den → Bool → PR
 | [], _, ns, cs, late => .fin ns cs late
 | l :: r, i, ns, cs, late => match lineF l with
  | none => .bad i
  | some (.inl n) => parseGo r (i + 1) (ns ++ [n]) cs (late || decide (0 < cs.length))
  | some (.inr x) => parseGo r (i + 1) ns (cs ++ [x]) late
end Go.V
namespace Go.V
open Go.Proofs
set_option maxRecDepth 100000
set_option maxHeartbeats 2000000
set_option linter.unusedSimpArgs false
set_option linter.unnecessarySimpa false
set_option linter.unusedVariables false
theorem word_len : ∀ j, j < 24 → (wordL j).length ≤ 10 := by decide +kernel
end Go.V
namespace Go.V
open Go.Proofs
set_option maxRecDepth 100000
set_option maxHeartbeats 8000000
set_option linter.unusedSimpArgs false
set_option linter.unnecessarySimpa false
set_option linter.unusedVariables false
theorem bsOf_data (s : ByteArray) : bsOf s.data.toList = s := rfl
theorem bsOf_inj {a b : List UInt8} : bsOf a = bsOf b ↔ a = b := by
 constructor
 ·intro h
  have := congrArg (fun s : ByteArray => s.data.toList) h
  simpa [bsOf] using this
 ·rintro rfl; rfl
theorem bs_eq {a : List UInt8} {s : ByteArray} : bsOf a = s ↔ a = s.data.toList := by
 rw [← bsOf_data s, bsOf_inj]
 rfl
theorem cut1_L (s : ByteArray) (c : UInt8) : (cut1 s ⟨#[c]⟩).data.toList = s.data.toList.takeWhile (· != c) := by
 have : (⟨#[c]⟩ : ByteArray).data.toList = [c] := rfl
 unfold cut1
 rw [this, cut_one]
 simp [bsOf]
theorem cut2_L (s : ByteArray) (c : UInt8) : (cut2 s ⟨#[c]⟩).data.toList = (s.data.toList.dropWhile (· != c)).drop 1 := by
 have : (⟨#[c]⟩ : ByteArray).data.toList = [c] := rfl
 unfold cut2
 rw [this, cut_one]
 simp [bsOf]
theorem cut3_L (s : ByteArray) (c : UInt8) : cut3 s ⟨#[c]⟩ = s.data.toList.contains c := by
 have : (⟨#[c]⟩ : ByteArray).data.toList = [c] := rfl
 unfold cut3
 rw [this, cut_one]
theorem size_L (s : ByteArray) : s.size = s.data.toList.length := Array.length_toList.symm
theorem cut_size (s : ByteArray) (c : UInt8) : (cut1 s ⟨#[c]⟩).size ≤ s.size ∧ (cut2 s ⟨#[c]⟩).size ≤ s.size := by
 have : (⟨#[c]⟩ : ByteArray).data.toList = [c] := rfl
 unfold cut1 cut2
 rw [bsOf_size, bsOf_size, this, size_L s]
 exact cut_len
theorem use24 {s : ByteArray} {c : UInt8} {K : SV → List SB → Prop} (hs : s.size ≤ 100000) (h : K (.tup [.str (cut1 s ⟨#[c]⟩), .str (cut2 s ⟨#[c]⟩), .bool (cut3 s ⟨#[c]⟩)]) []) : C24 [.str s, .str ⟨#[c]⟩] [] K := by
 have hmx := maxLen_val
 have := cut_size s c
 exact ⟨⟨by omega, by omega, by omega⟩, h⟩
theorem use32 {i : Nat} {K : SV → List SB → Prop} (h1 : ¬ i < 24 → K (.tup [.str ByteArray.empty, .int .i64 0, .bool false]) []) (h2 : i < 24 → K (.tup [.str (wordB i), .int .i64 (opK i), .bool true]) []) : C32 [.int .i64 i] [] K :=
 ⟨fun h => h1 (by omega), fun h => h2 (by omega)⟩
theorem use36 {i : Nat} {K : SV → List SB → Prop} (hi : i < 24) (h : K (.tup [.str (wordB i), .int .i64 (opK i)]) []) : C36 [.int .i64 i] [] K :=
 ⟨fun h' => absurd h' (by omega), fun _ => h⟩
theorem use64 {s : ByteArray} {K : SV → List SB → Prop} (hs : s.size ≤ 100000) (h : ∀ n b, inR .i64 n → (b = true → numI s.data.toList = some n) → (b = false → numI s.data.toList = none) → K (.tup [.int .i64 n, .bool b]) []) : C64 [.str s] [] K := by
 refine ⟨by omega, fun n b hn h1 h2 => h n b hn ?_ ?_⟩ <;> rw [← intP_numI] <;> assumption
def C27 : Contract := fun args hp K => match args, hp with
 | [.str s], [] => s.size ≤ 100000 ∧ (instrF s.data.toList = none → ∀ a b : Int, K (.tup [.agg [.int .i64 a, .int .i64 b], .bool false]) []) ∧ (∀ j n, instrF s.data.toList = some (j, n) → K (.tup [.agg [.int .i64 j, .int .i64 n], .bool true]) [])
 | _, _ => False
def L27 (w a : ByteArray) (h : Bool) : LoopAnn := { G := Nat, I := fun i => ⟨[(2, .ptr 0 0), (4, .str w), (5, .str a), (6, .bool h), (7, .int .i64 i)], [.struct [.int .i64 0, .int .i64 0]]⟩, R := fun _ i => i ≤ 24 ∧ ∀ j, j < i → wordL j ≠ w.data.toList, μ := fun i => 24 - i }
theorem L27_I {w a : ByteArray} {h : Bool} (i : Nat) : (L27 w a h).I i = ⟨[(2, .ptr 0 0), (4, .str w), (5, .str a), (6, .bool h), (7, .int .i64 i)], [.struct [.int .i64 0, .int .i64 0]]⟩ := rfl
attribute [local irreducible] rc
theorem s27 : Sound Tryd.prog 27 C27 := by
  refine sound_of_okF ok27 (.cons s24 ⟨_, Tryd.func24, rfl, by decide⟩ (.cons s32 (callable_of_okF ok32) (.cons s64 ⟨_, Tryd.func64, rfl, by decide⟩ .nil))) ?_
  intro args hp K h
  unfold C27 at h
  split at h
  · rename_i s
    obtain ⟨hs, hn, hk⟩ := h
    have hmx := maxLen_val
    have hl : s.data.toList.length = s.size := Array.length_toList
    refine ⟨by simp, [(1, L27 (cut1 s ⟨#[32]⟩) (cut2 s ⟨#[32]⟩) (cut3 s ⟨#[32]⟩))], ?_⟩
    simp (maxSteps:=9^9) only [a27, r27, go_sem, Int.reduceLT, Int.reduceLE, Int.reduceEq, Int.reduceNe, Int.reduceAdd, Int.reduceSub, Int.reduceMul, Int.reduceToNat, Int.reduceNeg, Nat.reduceEqDiff, Nat.reduceLeDiff, Nat.reduceSub, Nat.reduceMul, Nat.reduceLT, Nat.reduceBEq, Nat.reduceAdd]
    refine use24 hs ?_
    simp (maxSteps:=9^9) only [go_sem, Int.reduceLT, Int.reduceLE, Int.reduceEq, Int.reduceNe, Int.reduceAdd, Int.reduceSub, Int.reduceMul, Int.reduceToNat, Int.reduceNeg, Nat.reduceEqDiff, Nat.reduceLeDiff, Nat.reduceSub, Nat.reduceMul, Nat.reduceLT, Nat.reduceBEq, Nat.reduceAdd]
    refine loop_intro (A := L27 (cut1 s ⟨#[32]⟩) (cut2 s ⟨#[32]⟩) (cut3 s ⟨#[32]⟩)) (0 : Nat) ?_ ⟨by omega, fun j hj => absurd hj (by omega)⟩ ?_
    · simp (maxSteps:=9^9) only [go_sem, Int.reduceLT, Int.reduceLE, Int.reduceEq, Int.reduceNe, Int.reduceAdd, Int.reduceSub, Int.reduceMul, Int.reduceToNat, Int.reduceNeg, Nat.reduceEqDiff, Nat.reduceLeDiff, Nat.reduceSub, Nat.reduceMul, Nat.reduceLT, Nat.reduceBEq, Nat.reduceAdd]
      rfl
    · rintro (i : Nat) (⟨g1, g2⟩ : i ≤ 24 ∧ ∀ j, j < i → wordL j ≠ (cut1 s ⟨#[32]⟩).data.toList)
      rw [cut1_L] at g2
      simp (maxSteps:=9^9) only [L27_I, go_sem, Int.reduceLT, Int.reduceLE, Int.reduceEq, Int.reduceNe, Int.reduceAdd, Int.reduceSub, Int.reduceMul, Int.reduceToNat, Int.reduceNeg, Nat.reduceEqDiff, Nat.reduceLeDiff, Nat.reduceSub, Nat.reduceMul, Nat.reduceLT, Nat.reduceBEq, Nat.reduceAdd]
      refine use32 (fun hi => ?_) (fun hi => ?_)
      · simp (maxSteps:=9^9) only [go_sem, Int.reduceLT, Int.reduceLE, Int.reduceEq, Int.reduceNe, Int.reduceAdd, Int.reduceSub, Int.reduceMul, Int.reduceToNat, Int.reduceNeg, Nat.reduceEqDiff, Nat.reduceLeDiff, Nat.reduceSub, Nat.reduceMul, Nat.reduceLT, Nat.reduceBEq, Nat.reduceAdd]
        refine hn ?_ _ _
        unfold instrF
        rw [opFind_none (fun j hj => g2 j (by omega))]
      · simp (maxSteps:=9^9) only [go_sem, Int.reduceLT, Int.reduceLE, Int.reduceEq, Int.reduceNe, Int.reduceAdd, Int.reduceSub, Int.reduceMul, Int.reduceToNat, Int.reduceNeg, Nat.reduceEqDiff, Nat.reduceLeDiff, Nat.reduceSub, Nat.reduceMul, Nat.reduceLT, Nat.reduceBEq, Nat.reduceAdd]
        intro c hc
        refine swn hc (fun hw => ?_) (fun hw => ?_)
        · rintro _ _ m hm
          rw [w64 (by omega)] at hm
          rw [hm]
          refine lpE_intro (A := L27 (cut1 s ⟨#[32]⟩) (cut2 s ⟨#[32]⟩) (cut3 s ⟨#[32]⟩)) (i + 1 : Nat) rfl ⟨hi, fun j hj => ?_⟩ (by show 24 - (i + 1) < 24 - i; omega)
          rw [cut1_L]
          rcases Nat.lt_or_ge j i with h9 | h9
          · exact g2 j h9
          · obtain rfl : j = i := by omega
            intro e
            exact hw (by rw [← bsOf_data (wordB j), ← bsOf_data (cut1 s ⟨#[32]⟩), bsOf_inj, cut1_L]; exact e)
        · intro c2 hc2
          have hf : opFind (s.data.toList.takeWhile (· != 32)) = some i := by
            rw [← cut1_L, ← hw]
            exact opFind_word hi
          refine swd hc2 (fun hk0 => ?_) (fun hk0 => ?_)
          · have hI : instrF s.data.toList = if s.data.toList.contains 32 then none else some ((i : Int), 0) := by
              unfold instrF
              rw [hf]
              simp only [hk0, if_true]
            rw [cut3_L]
            cases hcc : s.data.toList.contains 32 with
            | true =>
              rw [hcc] at hI
              exact hn hI _ _
            | false =>
              rw [hcc] at hI
              exact hk _ _ hI
          · have hI : instrF s.data.toList = if s.data.toList.contains 32 then (numI ((s.data.toList.dropWhile (· != 32)).drop 1)).map (fun n => ((i : Int), n)) else none := by
              unfold instrF
              rw [hf]
              simp only [hk0, if_false]
            refine use64 (by have := cut_size s 32; omega) (fun n b hin hb1 hb2 => ?_)
            rw [cut2_L] at hb1 hb2
            simp (maxSteps:=9^9) only [go_sem, Int.reduceLT, Int.reduceLE, Int.reduceEq, Int.reduceNe, Int.reduceAdd, Int.reduceSub, Int.reduceMul, Int.reduceToNat, Int.reduceNeg, Nat.reduceEqDiff, Nat.reduceLeDiff, Nat.reduceSub, Nat.reduceMul, Nat.reduceLT, Nat.reduceBEq, Nat.reduceAdd]
            rw [cut3_L]
            cases hcc : s.data.toList.contains 32 with
            | true =>
              rw [hcc, if_pos rfl] at hI
              cases b with
              | true =>
                rw [hb1 rfl] at hI
                exact hk _ _ hI
              | false =>
                rw [hb2 rfl] at hI
                exact hn hI _ _
            | false =>
              rw [hcc] at hI
              exact hn hI _ _
  · exact h.elim
theorem use65 {s : ByteArray} {K : SV → List SB → Prop} (hs : s.size ≤ 100000) (h1 : unhexF s = none → ∀ t : ByteArray, t.size ≤ 100000 → K (.tup [.str t, .bool false]) []) (h2 : ∀ l, unhexF s = some l → K (.tup [.str (bsOf l), .bool (keyOk (bsOf l))]) []) : C65 [.str s] [] K := ⟨hs, h1, h2⟩
theorem use66 {s : ByteArray} {K : SV → List SB → Prop} (hs : s.size ≤ 100000) (h1 : numI s.data.toList = none → K (.tup [.int .i64 0, .bool false]) []) (h2 : ∀ n : Int, numI s.data.toList = some n → K (.tup [.int .i64 n, .bool true]) []) : C66 [.str s] [] K := ⟨hs, h1, h2⟩
theorem upto_succ {p : Nat → Prop} {i : Nat} (h : ∀ j, j < i → p j) (hi : p i) : ∀ j, j < i + 1 → p j := by
 intro j hj
 rcases Nat.lt_or_ge j i with h9 | h9
 ·exact h j h9
 ·have : j = i := by omega
  rw [this]; exact hi
def C29 : Contract := fun args hp K => match args, hp with
  | [.str s], [] => s.size ≤ 100000 ∧ (lineF s.data.toList = none → ∀ a b (t : ByteArray), t.size ≤ 100000 → K (.tup [.agg [.int .i64 a, .int .i64 b], .str t, .bool false]) [])
     ∧ (∀ n, lineF s.data.toList = some (.inl n) → K (.tup [.agg [.int .i64 (-1), .int .i64 0], .str n, .bool true]) [])
     ∧ (∀ x, lineF s.data.toList = some (.inr x) → 0 ≤ x.1 → K (.tup [.agg [.int .i64 x.1, .int .i64 x.2], .str ByteArray.empty, .bool true]) [])
  | _, _ => False
def L29 (s : ByteArray) : LoopAnn := { G := Nat, I := fun i => ⟨[(0, .str s), (2, .ptr 0 0), (29, .int .i64 i)], [.struct [.int .i64 0, .int .i64 0]]⟩, R := fun _ i => i ≤ 24 ∧ ∀ j, j < i → opM s.data.toList j = false, μ := fun i => 24 - i }
theorem L29_I {s : ByteArray} (i : Nat) : (L29 s).I i = ⟨[(0, .str s), (2, .ptr 0 0), (29, .int .i64 i)], [.struct [.int .i64 0, .int .i64 0]]⟩ := rfl
theorem s29 : Sound Tryd.prog 29 C29 := by
 refine sound_of_okF ok29 (.cons s65 (callable_of_okF ok65) (.cons s36 (callable_of_okF ok36) (.cons s66 (callable_of_okF ok66) .nil))) ?_
 intro args hp K h
 unfold C29 at h
 split at h
 ·rename_i s
  obtain ⟨hs, hn, hk1, hk2⟩ := h
  have hmx := maxLen_val
  have hl : s.data.toList.length = s.size := Array.length_toList
  refine ⟨by simp, [(1, L29 s)], ?_⟩
  simp (maxSteps:=9^9) only [a29, r29, go_sem, Int.reduceLT, Int.reduceLE, Int.reduceEq, Int.reduceNe, Int.reduceAdd, Int.reduceSub, Int.reduceMul, Int.reduceToNat, Int.reduceNeg, Nat.reduceEqDiff, Nat.reduceLeDiff, Nat.reduceSub, Nat.reduceMul, Nat.reduceLT, Nat.reduceBEq, Nat.reduceAdd]
  rintro _ _ rfl c hc
  have hname : lineF s.data.toList = if nameL.isPrefixOf s.data.toList then (unhexL (s.data.toList.drop 5)).bind (fun k => if keyOk (bsOf k) then some (.inl (bsOf k)) else none) else (instrF s.data.toList).map .inr := rfl
  refine swd hc (fun h5 => ?_) (fun h5 => ?_)
  ·refine nd_intro (by omega) ?_
   rintro u hu c2 hc2
   have hul : u.data.toList = s.data.toList.take 5 := by rw [hu, Go.Lib.extract_data]; simp
   by_cases hp : u = ⟨#[110, 97, 109, 101, 32]⟩
   ·obtain rfl : c2 = true := by rw [hc2]; exact decide_eq_true hp
    have hpre : nameL.isPrefixOf s.data.toList = true := by
     rw [List.isPrefixOf_iff_prefix]
     refine ⟨s.data.toList.drop 5, ?_⟩
     have e : nameL = s.data.toList.take 5 := by rw [← hul, hp]; rfl
     rw [e, List.take_append_drop]
    simp (maxSteps:=9^9) only [go_sem, Int.reduceLT, Int.reduceLE, Int.reduceEq, Int.reduceNe, Int.reduceAdd, Int.reduceSub, Int.reduceMul, Int.reduceToNat, Int.reduceNeg, Nat.reduceEqDiff, Nat.reduceLeDiff, Nat.reduceSub, Nat.reduceMul, Nat.reduceLT, Nat.reduceBEq, Nat.reduceAdd]
    refine nd_intro (by omega) ?_
    rintro u2 hu2
    have hul2 : u2.data.toList = s.data.toList.drop 5 := by
     rw [hu2, Go.Lib.extract_data]
     exact List.take_of_length_le (by simp)
    refine use65 (by rw [size_L, hul2, List.length_drop]; omega) (fun hx t ht => ?_) (fun l hx => ?_)
    ·simp (maxSteps:=9^9) only [go_sem, Int.reduceLT, Int.reduceLE, Int.reduceEq, Int.reduceNe, Int.reduceAdd, Int.reduceSub, Int.reduceMul, Int.reduceToNat, Int.reduceNeg, Nat.reduceEqDiff, Nat.reduceLeDiff, Nat.reduceSub, Nat.reduceMul, Nat.reduceLT, Nat.reduceBEq, Nat.reduceAdd]
     refine hn ?_ _ _ _ ht
     rw [hname, if_pos hpre, ← hul2]
     show (unhexF u2).bind _ = none
     rw [hx]
     rfl
    ·simp (maxSteps:=9^9) only [go_sem, Int.reduceLT, Int.reduceLE, Int.reduceEq, Int.reduceNe, Int.reduceAdd, Int.reduceSub, Int.reduceMul, Int.reduceToNat, Int.reduceNeg, Nat.reduceEqDiff, Nat.reduceLeDiff, Nat.reduceSub, Nat.reduceMul, Nat.reduceLT, Nat.reduceBEq, Nat.reduceAdd]
     have hL : lineF s.data.toList = if keyOk (bsOf l) then some (.inl (bsOf l)) else none := by
      rw [hname, if_pos hpre, ← hul2]
      show (unhexF u2).bind _ = _
      rw [hx]
      rfl
     cases hko : keyOk (bsOf l) with
     | true =>
      rw [hko] at hL
      exact hk1 _ hL
     | false =>
      rw [hko] at hL
      refine hn hL _ _ _ ?_
      rw [bsOf_size]
      have e1 := unhexL_len _ _ hx
      rw [hul2, List.length_drop] at e1
      omega
   ·obtain rfl : c2 = false := by rw [hc2]; exact decide_eq_false hp
    simp (maxSteps:=9^9) only [go_sem, Int.reduceLT, Int.reduceLE, Int.reduceEq, Int.reduceNe, Int.reduceAdd, Int.reduceSub, Int.reduceMul, Int.reduceToNat, Int.reduceNeg, Nat.reduceEqDiff, Nat.reduceLeDiff, Nat.reduceSub, Nat.reduceMul, Nat.reduceLT, Nat.reduceBEq, Nat.reduceAdd]
    have hnp : ¬ nameL.isPrefixOf s.data.toList = true := fun h => hp (by
     rw [← bsOf_data u, bs_eq, hul]
     obtain ⟨r, hr⟩ := List.isPrefixOf_iff_prefix.1 h
     rw [← hr]
     rfl)
    have hL : lineF s.data.toList = (instrF s.data.toList).map .inr := by rw [hname, if_neg hnp]
    refine loop_intro (A := L29 s) (0 : Nat) rfl ⟨by omega, fun j hj => absurd hj (by omega)⟩ ?_
    rintro (i : Nat) (⟨g1, g2⟩ : i ≤ 24 ∧ ∀ j, j < i → opM s.data.toList j = false)
    simp (maxSteps:=9^9) only [L29_I, go_sem, Int.reduceLT, Int.reduceLE, Int.reduceEq, Int.reduceNe, Int.reduceAdd, Int.reduceSub, Int.reduceMul, Int.reduceToNat, Int.reduceNeg, Nat.reduceEqDiff, Nat.reduceLeDiff, Nat.reduceSub, Nat.reduceMul, Nat.reduceLT, Nat.reduceBEq, Nat.reduceAdd]
    intro c3 hc3
    refine swd hc3 (fun hi => ?_) (fun hi => ?_)
    ·have hi : i < 24 := by omega
     refine use36 hi ?_
     simp (maxSteps:=9^9) only [go_sem, Int.reduceLT, Int.reduceLE, Int.reduceEq, Int.reduceNe, Int.reduceAdd, Int.reduceSub, Int.reduceMul, Int.reduceToNat, Int.reduceNeg, Nat.reduceEqDiff, Nat.reduceLeDiff, Nat.reduceSub, Nat.reduceMul, Nat.reduceLT, Nat.reduceBEq, Nat.reduceAdd]
     intro c4 hc4
     refine swd hc4 (fun hk0 => ?_) (fun hk0 => ?_)
     ·intro c5 hc5
      refine swd hc5 (fun hw => ?_) (fun hw => ?_)
      ·have hm : opM s.data.toList i = true := by
        unfold opM
        rw [if_pos hk0]
        exact decide_eq_true (by rw [hw]; rfl)
       have hI := opM_instr hi hm
       rw [if_pos hk0] at hI
       exact hk2 _ (by rw [hL, hI]; rfl) (by show (0 : Int) ≤ i; omega)
      ·have hm : opM s.data.toList i = false := by
        unfold opM
        rw [if_pos hk0]
        exact decide_eq_false (fun e => hw (by rw [← bsOf_data s, bs_eq]; exact e))
       intro c6 hc6
       refine swd hc6 (fun hk => absurd hk (by omega)) (fun _ => ?_)
       rintro _ _ m9 hm9
       rw [w64 (by omega)] at hm9
       rw [hm9]
       exact lpE_intro (A := L29 s) (i + 1 : Nat) rfl ⟨hi, upto_succ g2 hm⟩ (by show 24 - (i + 1) < 24 - i; omega)
     ·intro c6 hc6
      refine swd hc6 (fun hkp => ?_) (fun hkp => ?_)
      ·rintro _ _ rfl _ m1 hm1 c7 hc7
       have hws : (wordB i).size = (wordL i).length := size_L _
       have hw10 := word_len i hi
       refine swd hc7 (fun hlt => ?_) (fun hlt => ?_)
       ·rintro _ m2 hm2 _ _ m3 hm3
        rw [w64 (by omega)] at hm3
        refine nd_intro (by omega) ?_
        rintro u3 hu3
        have hm3' : m3.toNat = (wordL i).length + 1 := by omega
        rw [hm3'] at hu3
        refine ⟨by show (wordB i).size + 1 ≤ maxLen; omega, ?_⟩
        rintro u4 hu4 c8 hc8
        have hul3 : u3.data.toList = s.data.toList.take ((wordL i).length + 1) := by rw [hu3, Go.Lib.extract_data]; simp
        have hul4 : u4.data.toList = wordL i ++ [32] := by rw [hu4]; simp [wordL]
        by_cases hp2 : u3 = u4
        ·obtain rfl : c8 = true := by rw [hc8]; exact decide_eq_true hp2
         have hm : opM s.data.toList i = true := by
          unfold opM
          rw [if_neg hk0, List.isPrefixOf_iff_prefix]
          exact ⟨s.data.toList.drop ((wordL i).length + 1), by rw [← hul4, ← hp2, hul3, List.take_append_drop]⟩
         have hI := opM_instr hi hm
         rw [if_neg hk0] at hI
         simp (maxSteps:=9^9) only [go_sem, Int.reduceLT, Int.reduceLE, Int.reduceEq, Int.reduceNe, Int.reduceAdd, Int.reduceSub, Int.reduceMul, Int.reduceToNat, Int.reduceNeg, Nat.reduceEqDiff, Nat.reduceLeDiff, Nat.reduceSub, Nat.reduceMul, Nat.reduceLT, Nat.reduceBEq, Nat.reduceAdd]
         rintro _ m4 hm4 _ _ m5 hm5
         rw [w64 (by omega)] at hm5
         refine nd_intro (by omega) ?_
         rintro u5 hu5
         have hm5' : m5.toNat = (wordL i).length + 1 := by omega
         rw [hm5'] at hu5
         have hul5 : u5.data.toList = s.data.toList.drop ((wordL i).length + 1) := by
          rw [hu5, Go.Lib.extract_data]
          exact List.take_of_length_le (by simp)
         refine use66 (by rw [size_L, hul5, List.length_drop]; omega) (fun hx => ?_) (fun n hx => ?_)
         ·simp (maxSteps:=9^9) only [go_sem, Int.reduceLT, Int.reduceLE, Int.reduceEq, Int.reduceNe, Int.reduceAdd, Int.reduceSub, Int.reduceMul, Int.reduceToNat, Int.reduceNeg, Nat.reduceEqDiff, Nat.reduceLeDiff, Nat.reduceSub, Nat.reduceMul, Nat.reduceLT, Nat.reduceBEq, Nat.reduceAdd]
          rw [← hul5, hx] at hI
          exact hn (by rw [hL, hI]; rfl) _ _ _ (by decide)
         ·simp (maxSteps:=9^9) only [go_sem, Int.reduceLT, Int.reduceLE, Int.reduceEq, Int.reduceNe, Int.reduceAdd, Int.reduceSub, Int.reduceMul, Int.reduceToNat, Int.reduceNeg, Nat.reduceEqDiff, Nat.reduceLeDiff, Nat.reduceSub, Nat.reduceMul, Nat.reduceLT, Nat.reduceBEq, Nat.reduceAdd]
          rw [← hul5, hx] at hI
          exact hk2 _ (by rw [hL, hI]; rfl) (by show (0 : Int) ≤ i; omega)
        ·obtain rfl : c8 = false := by rw [hc8]; exact decide_eq_false hp2
         have hm : opM s.data.toList i = false := by
          unfold opM
          rw [if_neg hk0]
          cases hb : (wordL i ++ [32]).isPrefixOf s.data.toList with
          | false => rfl
          | true =>
           exfalso
           obtain ⟨r, hr⟩ := List.isPrefixOf_iff_prefix.1 hb
           refine hp2 ?_
           rw [← bsOf_data u3, ← bsOf_data u4, bsOf_inj, hul3, hul4, ← hr]
           exact List.take_left' (by simp)
         simp (maxSteps:=9^9) only [go_sem, Int.reduceLT, Int.reduceLE, Int.reduceEq, Int.reduceNe, Int.reduceAdd, Int.reduceSub, Int.reduceMul, Int.reduceToNat, Int.reduceNeg, Nat.reduceEqDiff, Nat.reduceLeDiff, Nat.reduceSub, Nat.reduceMul, Nat.reduceLT, Nat.reduceBEq, Nat.reduceAdd]
         rintro _ _ m9 hm9
         rw [w64 (by omega)] at hm9
         rw [hm9]
         exact lpE_intro (A := L29 s) (i + 1 : Nat) rfl ⟨hi, upto_succ g2 hm⟩ (by show 24 - (i + 1) < 24 - i; omega)
       ·have hm : opM s.data.toList i = false := by
         unfold opM
         rw [if_neg hk0]
         cases hb : (wordL i ++ [32]).isPrefixOf s.data.toList with
         | false => rfl
         | true =>
          exfalso
          obtain ⟨r, hr⟩ := List.isPrefixOf_iff_prefix.1 hb
          have := congrArg List.length hr
          simp at this
          omega
        rintro _ _ m9 hm9
        rw [w64 (by omega)] at hm9
        rw [hm9]
        exact lpE_intro (A := L29 s) (i + 1 : Nat) rfl ⟨hi, upto_succ g2 hm⟩ (by show 24 - (i + 1) < 24 - i; omega)
      ·exfalso
       have := (opK_cases (op := (i : Int)) (by omega)).2
       omega
    ·have hIn : instrF s.data.toList = none := opM_none (fun j hj => g2 j (by omega))
     exact hn (by rw [hL, hIn]; rfl) _ _ _ (by decide)
  ·have hnp : ¬ nameL.isPrefixOf s.data.toList = true := fun h => by
    obtain ⟨r, hr⟩ := List.isPrefixOf_iff_prefix.1 h
    have := congrArg List.length hr
    simp [nameL] at this
    omega
   have hL : lineF s.data.toList = (instrF s.data.toList).map .inr := by rw [hname, if_neg hnp]
   refine loop_intro (A := L29 s) (0 : Nat) rfl ⟨by omega, fun j hj => absurd hj (by omega)⟩ ?_
   rintro (i : Nat) (⟨g1, g2⟩ : i ≤ 24 ∧ ∀ j, j < i → opM s.data.toList j = false)
   simp (maxSteps:=9^9) only [L29_I, go_sem, Int.reduceLT, Int.reduceLE, Int.reduceEq, Int.reduceNe, Int.reduceAdd, Int.reduceSub, Int.reduceMul, Int.reduceToNat, Int.reduceNeg, Nat.reduceEqDiff, Nat.reduceLeDiff, Nat.reduceSub, Nat.reduceMul, Nat.reduceLT, Nat.reduceBEq, Nat.reduceAdd]
   intro c3 hc3
   refine swd hc3 (fun hi => ?_) (fun hi => ?_)
   ·have hi : i < 24 := by omega
    refine use36 hi ?_
    simp (maxSteps:=9^9) only [go_sem, Int.reduceLT, Int.reduceLE, Int.reduceEq, Int.reduceNe, Int.reduceAdd, Int.reduceSub, Int.reduceMul, Int.reduceToNat, Int.reduceNeg, Nat.reduceEqDiff, Nat.reduceLeDiff, Nat.reduceSub, Nat.reduceMul, Nat.reduceLT, Nat.reduceBEq, Nat.reduceAdd]
    intro c4 hc4
    refine swd hc4 (fun hk0 => ?_) (fun hk0 => ?_)
    ·intro c5 hc5
     refine swd hc5 (fun hw => ?_) (fun hw => ?_)
     ·have hm : opM s.data.toList i = true := by
       unfold opM
       rw [if_pos hk0]
       exact decide_eq_true (by rw [hw]; rfl)
      have hI := opM_instr hi hm
      rw [if_pos hk0] at hI
      exact hk2 _ (by rw [hL, hI]; rfl) (by show (0 : Int) ≤ i; omega)
     ·have hm : opM s.data.toList i = false := by
       unfold opM
       rw [if_pos hk0]
       exact decide_eq_false (fun e => hw (by rw [← bsOf_data s, bs_eq]; exact e))
      intro c6 hc6
      refine swd hc6 (fun hk => absurd hk (by omega)) (fun _ => ?_)
      rintro _ _ m9 hm9
      rw [w64 (by omega)] at hm9
      rw [hm9]
      exact lpE_intro (A := L29 s) (i + 1 : Nat) rfl ⟨hi, upto_succ g2 hm⟩ (by show 24 - (i + 1) < 24 - i; omega)
    ·intro c6 hc6
     refine swd hc6 (fun hkp => ?_) (fun hkp => ?_)
     ·rintro _ _ rfl _ m1 hm1 c7 hc7
      have hws : (wordB i).size = (wordL i).length := size_L _
      have hw10 := word_len i hi
      refine swd hc7 (fun hlt => ?_) (fun hlt => ?_)
      ·rintro _ m2 hm2 _ _ m3 hm3
       rw [w64 (by omega)] at hm3
       refine nd_intro (by omega) ?_
       rintro u3 hu3
       have hm3' : m3.toNat = (wordL i).length + 1 := by omega
       rw [hm3'] at hu3
       refine ⟨by show (wordB i).size + 1 ≤ maxLen; omega, ?_⟩
       rintro u4 hu4 c8 hc8
       have hul3 : u3.data.toList = s.data.toList.take ((wordL i).length + 1) := by rw [hu3, Go.Lib.extract_data]; simp
       have hul4 : u4.data.toList = wordL i ++ [32] := by rw [hu4]; simp [wordL]
       by_cases hp2 : u3 = u4
       ·obtain rfl : c8 = true := by rw [hc8]; exact decide_eq_true hp2
        have hm : opM s.data.toList i = true := by
         unfold opM
         rw [if_neg hk0, List.isPrefixOf_iff_prefix]
         exact ⟨s.data.toList.drop ((wordL i).length + 1), by rw [← hul4, ← hp2, hul3, List.take_append_drop]⟩
        have hI := opM_instr hi hm
        rw [if_neg hk0] at hI
        simp (maxSteps:=9^9) only [go_sem, Int.reduceLT, Int.reduceLE, Int.reduceEq, Int.reduceNe, Int.reduceAdd, Int.reduceSub, Int.reduceMul, Int.reduceToNat, Int.reduceNeg, Nat.reduceEqDiff, Nat.reduceLeDiff, Nat.reduceSub, Nat.reduceMul, Nat.reduceLT, Nat.reduceBEq, Nat.reduceAdd]
        rintro _ m4 hm4 _ _ m5 hm5
        rw [w64 (by omega)] at hm5
        refine nd_intro (by omega) ?_
        rintro u5 hu5
        have hm5' : m5.toNat = (wordL i).length + 1 := by omega
        rw [hm5'] at hu5
        have hul5 : u5.data.toList = s.data.toList.drop ((wordL i).length + 1) := by
         rw [hu5, Go.Lib.extract_data]
         exact List.take_of_length_le (by simp)
        refine use66 (by rw [size_L, hul5, List.length_drop]; omega) (fun hx => ?_) (fun n hx => ?_)
        ·simp (maxSteps:=9^9) only [go_sem, Int.reduceLT, Int.reduceLE, Int.reduceEq, Int.reduceNe, Int.reduceAdd, Int.reduceSub, Int.reduceMul, Int.reduceToNat, Int.reduceNeg, Nat.reduceEqDiff, Nat.reduceLeDiff, Nat.reduceSub, Nat.reduceMul, Nat.reduceLT, Nat.reduceBEq, Nat.reduceAdd]
         rw [← hul5, hx] at hI
         exact hn (by rw [hL, hI]; rfl) _ _ _ (by decide)
        ·simp (maxSteps:=9^9) only [go_sem, Int.reduceLT, Int.reduceLE, Int.reduceEq, Int.reduceNe, Int.reduceAdd, Int.reduceSub, Int.reduceMul, Int.reduceToNat, Int.reduceNeg, Nat.reduceEqDiff, Nat.reduceLeDiff, Nat.reduceSub, Nat.reduceMul, Nat.reduceLT, Nat.reduceBEq, Nat.reduceAdd]
         rw [← hul5, hx] at hI
         exact hk2 _ (by rw [hL, hI]; rfl) (by show (0 : Int) ≤ i; omega)
       ·obtain rfl : c8 = false := by rw [hc8]; exact decide_eq_false hp2
        have hm : opM s.data.toList i = false := by
         unfold opM
         rw [if_neg hk0]
         cases hb : (wordL i ++ [32]).isPrefixOf s.data.toList with
         | false => rfl
         | true =>
          exfalso
          obtain ⟨r, hr⟩ := List.isPrefixOf_iff_prefix.1 hb
          refine hp2 ?_
          rw [← bsOf_data u3, ← bsOf_data u4, bsOf_inj, hul3, hul4, ← hr]
          exact List.take_left' (by simp)
        simp (maxSteps:=9^9) only [go_sem, Int.reduceLT, Int.reduceLE, Int.reduceEq, Int.reduceNe, Int.reduceAdd, Int.reduceSub, Int.reduceMul, Int.reduceToNat, Int.reduceNeg, Nat.reduceEqDiff, Nat.reduceLeDiff, Nat.reduceSub, Nat.reduceMul, Nat.reduceLT, Nat.reduceBEq, Nat.reduceAdd]
        rintro _ _ m9 hm9
        rw [w64 (by omega)] at hm9
        rw [hm9]
        exact lpE_intro (A := L29 s) (i + 1 : Nat) rfl ⟨hi, upto_succ g2 hm⟩ (by show 24 - (i + 1) < 24 - i; omega)
      ·have hm : opM s.data.toList i = false := by
        unfold opM
        rw [if_neg hk0]
        cases hb : (wordL i ++ [32]).isPrefixOf s.data.toList with
        | false => rfl
        | true =>
         exfalso
         obtain ⟨r, hr⟩ := List.isPrefixOf_iff_prefix.1 hb
         have := congrArg List.length hr
         simp at this
         omega
       rintro _ _ m9 hm9
       rw [w64 (by omega)] at hm9
       rw [hm9]
       exact lpE_intro (A := L29 s) (i + 1 : Nat) rfl ⟨hi, upto_succ g2 hm⟩ (by show 24 - (i + 1) < 24 - i; omega)
     ·exfalso
      have := (opK_cases (op := (i : Int)) (by omega)).2
      omega
   ·have hIn : instrF s.data.toList = none := opM_none (fun j hj => g2 j (by omega))
    exact hn (by rw [hL, hIn]; rfl) _ _ _ (by decide)
 ·exact h.elim
end Go.V
