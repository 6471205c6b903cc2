/- Hexadecimal and decimal digits, as the document reads them. -/
import Derived.Test.YthfkoeoaehkoaaaGreatDoorMN2
import Derived.Test.YthfkoeoaehkoaaaGreatDoorMN1
import Derived.Test.YthfkoeoaehkoaaaGreatDoorVx
namespace Go.V
open Go.Proofs
set_option maxRecDepth 100000
set_option maxHeartbeats 4000000
set_option linter.unusedSimpArgs false
set_option linter.unnecessarySimpa false
set_option linter.unusedVariables false
def C73 : Contract := fun args hp K => match args, hp with
 | [.str s], [] => s.size ≤ 100000 ∧ (unhexF s = none → ∀ t : ByteArray, t.size ≤ 100000 → K (.tup [.str t, .bool false]) []) ∧ (∀ l, unhexF s = some l → K (.tup [.str (bsOf l), .bool (keyOk (bsOf l))]) [])
 | _, _ => False
def R65 (s : ByteArray) (g : U26) : Prop := 2 * g.i ≤ s.size ∧ g.l.length = g.i ∧ unhexF s = (unhexL (s.data.toList.drop (2 * g.i))).map (g.l ++ ·)
def L65 (s : ByteArray) : LoopAnn := { G := U26, I := fun g => ⟨[(0, .str s), (4, .own 0), (5, .int .i64 (2 * g.i : Nat))], [.row true 1 .byte g.l]⟩, R := fun _ g => R65 s g, μ := fun g => s.size - g.i }
theorem L65_I {s : ByteArray} (g : U26) : (L65 s).I g = ⟨[(0, .str s), (4, .own 0), (5, .int .i64 (2 * g.i : Nat))], [.row true 1 .byte g.l]⟩ := rfl
attribute [local irreducible] rc
theorem s73 : Sound Tryz.prog 73 C73 := by
  refine sound_of_okF ok73 (.cons s151 (callable_of_okF ok151) (.cons s152 (callable_of_okF ok152) .nil)) ?_
  intro args hp K h
  unfold C73 at h
  split at h
  · rename_i s
    obtain ⟨hs, hn, hk⟩ := h
    have hmx := maxLen_val
    have hl : s.data.toList.length = s.size := Array.length_toList
    refine ⟨by simp, [(1, L65 s)], ?_⟩
    simp (maxSteps:=9^9) only [a73, r73, go_sem, Int.reduceLT, Int.reduceLE, Int.reduceEq, Int.reduceNe, Int.reduceAdd, Int.reduceSub, Int.reduceMul, Int.reduceToNat, Int.reduceNeg, Nat.reduceEqDiff, Nat.reduceLeDiff, Nat.reduceSub, Nat.reduceMul, Nat.reduceLT, Nat.reduceBEq, Nat.reduceAdd, Nat.reduceDiv, Nat.reduceMod]
    refine loop_intro (A := L65 s) (⟨0, []⟩ : U26) ?_ ⟨by simp, rfl, by simp [unhexF]⟩ ?_
    · simp (maxSteps:=9^9) only [go_sem, Int.reduceLT, Int.reduceLE, Int.reduceEq, Int.reduceNe, Int.reduceAdd, Int.reduceSub, Int.reduceMul, Int.reduceToNat, Int.reduceNeg, Nat.reduceEqDiff, Nat.reduceLeDiff, Nat.reduceSub, Nat.reduceMul, Nat.reduceLT, Nat.reduceBEq, Nat.reduceAdd, Nat.reduceDiv, Nat.reduceMod]
      rfl
    · rintro (⟨i, l⟩ : U26) (⟨g1, g2, g3⟩ : R65 s ⟨i, l⟩)
      simp only at g1 g2 g3
      simp (maxSteps:=9^9) only [L65_I, C151, C152, go_sem, Int.reduceLT, Int.reduceLE, Int.reduceEq, Int.reduceNe, Int.reduceAdd, Int.reduceSub, Int.reduceMul, Int.reduceToNat, Int.reduceNeg, Nat.reduceEqDiff, Nat.reduceLeDiff, Nat.reduceSub, Nat.reduceMul, Nat.reduceLT, Nat.reduceBEq, Nat.reduceAdd, Nat.reduceDiv, Nat.reduceMod]
      rintro _ _ n0 hn0 _ _ rfl c hc
      rw [w64 (by omega)] at hn0
      refine swd hc (fun hlt => ?_) (fun hlt => ?_)
      · refine nd_intro (by omega) ?_
        rintro m hm _ _ n1 hn1
        rw [w64 (by omega)] at hn1
        refine nd_intro (by omega) ?_
        rintro m2 hm2
        have e1 : n1.toNat = 2 * i + 1 := by omega
        rw [e1] at hm2 ⊢
        generalize ea : s.data.toList.getD (2 * i) 0 = a at hm
        generalize eb : s.data.toList.getD (2 * i + 1) 0 = b at hm2 ⊢
        have hu := unhexL_two s.data.toList i (by omega)
        rw [ea, eb] at hu
        rw [hu] at g3
        have la := UInt8.toNat_lt a
        have lb := UInt8.toNat_lt b
        have ua : UInt8.ofNat m.toNat = a := by rw [hm]; exact u8_back a
        have ub : UInt8.ofNat m2.toNat = b := by rw [hm2]; exact u8_back b
        rw [ua, ub]
        refine ⟨by omega, ⟨fun _ _ m hm => by rw [hm, w64 (by omega), hn1], nd_intro (by omega) (fun m hm => by rw [hm, hm2])⟩, by omega, ?_⟩
        intro c3 hc3
        refine swd hc3 (fun hx => hn ?_ _ (by decide)) (fun hx => ?_)
        · rw [g3]
          have : digV a = none := digI_neg hx
          rw [this]
          rfl
        · intro c4 hc4
          obtain ⟨x1, ex⟩ := digI_pos hx
          refine swd hc4 (fun hy => hn ?_ _ (by decide)) (fun hy => ?_)
          · rw [g3]
            have : digV b = none := digI_neg hy
            rw [this, ex]
            rfl
          · obtain ⟨y1, ey⟩ := digI_pos hy
            have lx := digV_lt ex
            have ly := digV_lt ey
            have dx : digI a = (x1 : Int) := by unfold digI; rw [ex]
            have dy : digI b = (y1 : Int) := by unfold digI; rw [ey]
            rw [dx, dy]
            rintro _ _ n3 hn3 _ _ n4 hn4 _ n5 hn5
            rw [w64 (by omega)] at hn3
            rw [w64 (by omega)] at hn4
            rw [wu8 (by omega)] at hn5
            rw [ex, ey] at g3
            refine ⟨fun _ => by omega, ?_⟩
            rintro _ _ _ n6 hn6
            rw [w64 (by omega)] at hn6
            have e7 : n5.toNat = 16 * x1 + y1 := by omega
            rw [hn6, e7]
            refine lpE_intro (A := L65 s) (⟨i + 1, l ++ [UInt8.ofNat (16 * x1 + y1)]⟩ : U26) ?_ ⟨by show 2 * (i + 1) ≤ s.size; omega, by simp [← g2], ?_⟩ (by show s.size - (i + 1) < s.size - i; omega)
            · rw [L65_I]
              have e8 : ((2 * i : Nat) : Int) + 2 = ((2 * (i + 1) : Nat) : Int) := by omega
              rw [e8]
              rfl
            · rw [g3]
              simp only [Option.map_map]
              apply congrArg (fun f => Option.map f _)
              funext z
              simp
      · rintro u rfl _ _ rfl _ _ n1 hn1 c3 hc3
        rw [Int.tmod_eq_emod_of_nonneg (by omega)] at hn1
        have hll : (l.toArray).size ≤ 100000 := by simp; omega
        refine swd hc3 (fun hz => ?_) (fun hz => ?_)
        · rintro u rfl
          refine ⟨fun u hu => by rw [hu], ?_⟩
          have e9 : s.data.toList.drop (2 * i) = [] := List.drop_of_length_le (by omega)
          rw [e9] at g3
          have hf := hk _ g3
          simp only [List.append_nil] at hf
          exact hf
        · refine hn ?_ _ hll
          cases hu : unhexF s with
          | none => rfl
          | some r =>
            have := unhexL_len _ _ hu
            omega
  · exact h.elim
theorem head_48 {l : List UInt8} (h : 0 < l.length) : l.head? = some 48 ↔ ((l.getD 0 0).toNat : Int) = 48 := by
 cases l with
 | nil => simp at h
 | cons c r =>
  simp only [List.head?_cons, Option.some.injEq, List.getD_cons_zero]
  constructor
  ·rintro rfl; rfl
  ·intro h
   have : c.toNat = (48 : UInt8).toNat := by simp; omega
   exact UInt8.toNat.inj this
def C72 : Contract := fun args hp K => match args, hp with
 | [.str s], [] => s.size ≤ 100000 ∧ (natF s.data.toList = none → K (.tup [.int .u64 0, .bool false]) []) ∧ (∀ n : Nat, natF s.data.toList = some n → K (.tup [.int .u64 n, .bool true]) [])
 | _, _ => False
structure U77 where
 i : Nat
 n : Nat
def L77 (s : ByteArray) : LoopAnn := { G := U77, I := fun g => ⟨[(0, .str s), (4, .int .u64 g.n), (5, .int .i64 g.i)], []⟩, R := fun _ g => (g.i ≤ s.size ∧ g.n ≤ 18446744073709551615) ∧ natGo s.data.toList 0 = natGo (s.data.toList.drop g.i) g.n, μ := fun g => s.size - g.i }
theorem L77_I {s : ByteArray} (g : U77) : (L77 s).I g = ⟨[(0, .str s), (4, .int .u64 g.n), (5, .int .i64 g.i)], []⟩ := rfl
theorem s72 : Sound Tryz.prog 72 C72 := by
  refine sound_of_okF ok72 .nil ?_
  intro args hp K h
  unfold C72 at h
  split at h
  · rename_i s
    obtain ⟨hs, hn, hk⟩ := h
    have hmx := maxLen_val
    have hl : s.data.toList.length = s.size := Array.length_toList
    refine ⟨by simp, [(1, L77 s)], ?_⟩
    simp (maxSteps:=9^9) only [a72, r72, go_sem, Int.reduceLT, Int.reduceLE, Int.reduceEq, Int.reduceNe, Int.reduceAdd, Int.reduceSub, Int.reduceMul, Int.reduceToNat, Int.reduceNeg, Nat.reduceEqDiff, Nat.reduceLeDiff, Nat.reduceSub, Nat.reduceMul, Nat.reduceLT, Nat.reduceBEq, Nat.reduceAdd, Nat.reduceDiv, Nat.reduceMod]
    rintro _ _ rfl c hc
    refine swd hc (fun h0 => hn ?_) (fun h0 => ?_)
    · unfold natF
      rw [if_pos (.inl (List.length_eq_zero_iff.1 (by omega)))]
    · rintro _ _ rfl c2 hc2
      refine swd hc2 (fun h1 => nd_intro (by omega) ?_) (fun h1 => ?_)
      · intro m hm c3 hc3
        refine swd hc3 (fun h2 => hn ?_) (fun h2 => ?_)
        · unfold natF
          rw [if_pos (.inr ⟨by omega, (head_48 (by omega)).2 (by omega)⟩)]
        · have hN : natF s.data.toList = natGo s.data.toList 0 := by
            unfold natF
            rw [if_neg]
            rintro (h | ⟨_, h⟩)
            · rw [h] at hl; simp at hl; omega
            · have := (head_48 (l := s.data.toList) (by omega)).1 h
              omega
          refine loop_intro (A := L77 s) (⟨0, 0⟩ : U77) ?_ ⟨⟨by simp, by simp⟩, rfl⟩ ?_
          · simp (maxSteps:=9^9) only [go_sem, Int.reduceLT, Int.reduceLE, Int.reduceEq, Int.reduceNe, Int.reduceAdd, Int.reduceSub, Int.reduceMul, Int.reduceToNat, Int.reduceNeg, Nat.reduceEqDiff, Nat.reduceLeDiff, Nat.reduceSub, Nat.reduceMul, Nat.reduceLT, Nat.reduceBEq, Nat.reduceAdd, Nat.reduceDiv, Nat.reduceMod]
            rfl
          · rintro (⟨i, n⟩ : U77) (⟨⟨g1, g2⟩, g3⟩ : (i ≤ s.size ∧ n ≤ 18446744073709551615) ∧ natGo s.data.toList 0 = natGo (s.data.toList.drop i) n)
            simp (maxSteps:=9^9) only [L77_I, go_sem, Int.reduceLT, Int.reduceLE, Int.reduceEq, Int.reduceNe, Int.reduceAdd, Int.reduceSub, Int.reduceMul, Int.reduceToNat, Int.reduceNeg, Nat.reduceEqDiff, Nat.reduceLeDiff, Nat.reduceSub, Nat.reduceMul, Nat.reduceLT, Nat.reduceBEq, Nat.reduceAdd, Nat.reduceDiv, Nat.reduceMod]
            rintro _ _ rfl c4 hc4
            refine swd hc4 (fun hlt => ?_) (fun hlt => ?_)
            · have hlt' : i < s.size := by omega
              have hd : s.data.toList.drop i = s.data.toList.getD i 0 :: s.data.toList.drop (i + 1) := by
                rw [List.drop_eq_getElem_cons (by omega), getD_eq (by omega)]
              rw [hd] at g3
              generalize s.data.toList.getD i 0 = a at g3 ⊢
              have la := UInt8.toNat_lt a
              simp only [natGo] at g3
              refine nd_intro hlt' ?_
              rintro m6 rfl c5 hc5
              refine swd hc5 (fun h5 => hn ?_) (fun h5 => ?_)
              · rw [hN, g3, if_neg (by omega)]
              · refine nd_intro hlt' ?_
                rintro _ rfl c6 hc6
                refine swd hc6 (fun h6 => hn ?_) (fun h6 => ?_)
                · rw [hN, g3, if_neg (by omega)]
                · rw [if_pos (by omega)] at g3
                  refine nd_intro hlt' ?_
                  rintro _ rfl _ _ m7 hm7 _ m8 hm8 _ _ m9 hm9 _ _ m10 hm10 c7 hc7
                  rw [wu8 (by omega)] at hm7
                  rw [wu64 (by omega)] at hm8
                  rw [wu64 (by omega)] at hm9
                  rw [Int.tdiv_eq_ediv_of_nonneg (by omega), wu64 (by omega)] at hm10
                  refine swd hc7 (fun h7 => hn ?_) (fun h7 => ?_)
                  · rw [hN, g3, if_pos (by omega)]
                  · rw [if_neg (by omega)] at g3
                    rintro _ _ m11 hm11 _ _ m12 hm12 _ _ m13 hm13
                    rw [wu64 (by omega)] at hm11
                    rw [wu64 (by omega)] at hm12
                    rw [w64 (by omega)] at hm13
                    refine lpE_intro (A := L77 s) (⟨i + 1, 10 * n + (a.toNat - 48)⟩ : U77) ?_ ⟨⟨by show i + 1 ≤ s.size; omega, by show 10 * n + (a.toNat - 48) ≤ 18446744073709551615; omega⟩, g3⟩ (by show s.size - (i + 1) < s.size - i; omega)
                    rw [L77_I]
                    have e8 : m12 = ((10 * n + (a.toNat - 48) : Nat) : Int) := by omega
                    have e9 : m13 = ((i + 1 : Nat) : Int) := by omega
                    rw [e8, e9]
                    rfl
            · rw [List.drop_of_length_le (by omega)] at g3
              exact hk n (hN.trans g3)
      · have hN : natF s.data.toList = natGo s.data.toList 0 := by
          unfold natF
          rw [if_neg]
          rintro (h | ⟨h, _⟩)
          · rw [h] at hl; simp at hl; omega
          · omega
        refine loop_intro (A := L77 s) (⟨0, 0⟩ : U77) ?_ ⟨⟨by simp, by simp⟩, rfl⟩ ?_
        · simp (maxSteps:=9^9) only [go_sem, Int.reduceLT, Int.reduceLE, Int.reduceEq, Int.reduceNe, Int.reduceAdd, Int.reduceSub, Int.reduceMul, Int.reduceToNat, Int.reduceNeg, Nat.reduceEqDiff, Nat.reduceLeDiff, Nat.reduceSub, Nat.reduceMul, Nat.reduceLT, Nat.reduceBEq, Nat.reduceAdd, Nat.reduceDiv, Nat.reduceMod]
          rfl
        · rintro (⟨i, n⟩ : U77) (⟨⟨g1, g2⟩, g3⟩ : (i ≤ s.size ∧ n ≤ 18446744073709551615) ∧ natGo s.data.toList 0 = natGo (s.data.toList.drop i) n)
          simp (maxSteps:=9^9) only [L77_I, go_sem, Int.reduceLT, Int.reduceLE, Int.reduceEq, Int.reduceNe, Int.reduceAdd, Int.reduceSub, Int.reduceMul, Int.reduceToNat, Int.reduceNeg, Nat.reduceEqDiff, Nat.reduceLeDiff, Nat.reduceSub, Nat.reduceMul, Nat.reduceLT, Nat.reduceBEq, Nat.reduceAdd, Nat.reduceDiv, Nat.reduceMod]
          rintro _ _ rfl c4 hc4
          refine swd hc4 (fun hlt => ?_) (fun hlt => ?_)
          · have hlt' : i < s.size := by omega
            have hd : s.data.toList.drop i = s.data.toList.getD i 0 :: s.data.toList.drop (i + 1) := by
              rw [List.drop_eq_getElem_cons (by omega), getD_eq (by omega)]
            rw [hd] at g3
            generalize s.data.toList.getD i 0 = a at g3 ⊢
            have la := UInt8.toNat_lt a
            simp only [natGo] at g3
            refine nd_intro hlt' ?_
            rintro m6 rfl c5 hc5
            refine swd hc5 (fun h5 => hn ?_) (fun h5 => ?_)
            · rw [hN, g3, if_neg (by omega)]
            · refine nd_intro hlt' ?_
              rintro _ rfl c6 hc6
              refine swd hc6 (fun h6 => hn ?_) (fun h6 => ?_)
              · rw [hN, g3, if_neg (by omega)]
              · rw [if_pos (by omega)] at g3
                refine nd_intro hlt' ?_
                rintro _ rfl _ _ m7 hm7 _ m8 hm8 _ _ m9 hm9 _ _ m10 hm10 c7 hc7
                rw [wu8 (by omega)] at hm7
                rw [wu64 (by omega)] at hm8
                rw [wu64 (by omega)] at hm9
                rw [Int.tdiv_eq_ediv_of_nonneg (by omega), wu64 (by omega)] at hm10
                refine swd hc7 (fun h7 => hn ?_) (fun h7 => ?_)
                · rw [hN, g3, if_pos (by omega)]
                · rw [if_neg (by omega)] at g3
                  rintro _ _ m11 hm11 _ _ m12 hm12 _ _ m13 hm13
                  rw [wu64 (by omega)] at hm11
                  rw [wu64 (by omega)] at hm12
                  rw [w64 (by omega)] at hm13
                  refine lpE_intro (A := L77 s) (⟨i + 1, 10 * n + (a.toNat - 48)⟩ : U77) ?_ ⟨⟨by show i + 1 ≤ s.size; omega, by show 10 * n + (a.toNat - 48) ≤ 18446744073709551615; omega⟩, g3⟩ (by show s.size - (i + 1) < s.size - i; omega)
                  rw [L77_I]
                  have e8 : m12 = ((10 * n + (a.toNat - 48) : Nat) : Int) := by omega
                  have e9 : m13 = ((i + 1 : Nat) : Int) := by omega
                  rw [e8, e9]
                  rfl
          · rw [List.drop_of_length_le (by omega)] at g3
            exact hk n (hN.trans g3)
  · exact h.elim
theorem use72 {s : ByteArray} {K : SV → List SB → Prop} (hs : s.size ≤ 100000) (h1 : natF s.data.toList = none → K (.tup [.int .u64 0, .bool false]) []) (h2 : ∀ n : Nat, natF s.data.toList = some n → n ≤ 18446744073709551615 → K (.tup [.int .u64 n, .bool true]) []) : C72 [.str s] [] K :=
 ⟨hs, h1, fun n hn => h2 n hn (parse_natF hn).2⟩
theorem head_45 {l : List UInt8} (h : 0 < l.length) : l.head? = some 45 ↔ ((l.getD 0 0).toNat : Int) = 45 := by
 cases l with
 | nil => simp at h
 | cons c r =>
  simp only [List.head?_cons, Option.some.injEq, List.getD_cons_zero]
  constructor
  ·rintro rfl; rfl
  ·intro h
   have : c.toNat = (45 : UInt8).toNat := by simp; omega
   exact UInt8.toNat.inj this
theorem wneg {n : Nat} (h0 : 0 < n) (h1 : n ≤ 9223372036854775808) : IntKind.u64.wrap (0 - (n : Int)) = 18446744073709551616 - (n : Int) := by
 unfold IntKind.wrap
 simp only [IntKind.signed, IntKind.bits]
 simp
 omega
theorem wback {n : Nat} (h0 : 0 < n) (h1 : n ≤ 9223372036854775808) : IntKind.i64.wrap (18446744073709551616 - (n : Int)) = -(n : Int) := by
 unfold IntKind.wrap
 simp only [IntKind.signed, IntKind.bits]
 simp
 omega
def C75 : Contract := fun args hp K => match args, hp with
 | [.str s], [] => s.size ≤ 100000 ∧ (numI s.data.toList = none → K (.tup [.int .i64 0, .bool false]) []) ∧ (∀ n : Int, numI s.data.toList = some n → K (.tup [.int .i64 n, .bool true]) [])
 | _, _ => False
theorem s75 : Sound Tryz.prog 75 C75 := by
 refine sound_of_okF ok75 (.cons s72 (callable_of_okF ok72) .nil) ?_
 intro args hp K h
 unfold C75 at h
 split at h
 ·rename_i s
  obtain ⟨hs, hn, hk⟩ := h
  have hmx := maxLen_val
  have hl : s.data.toList.length = s.size := Array.length_toList
  refine ⟨by simp, [], ?_⟩
  simp (maxSteps:=9^9) only [a75, r75, go_sem, Int.reduceLT, Int.reduceLE, Int.reduceEq, Int.reduceNe, Int.reduceAdd, Int.reduceSub, Int.reduceMul, Int.reduceToNat, Int.reduceNeg, Nat.reduceEqDiff, Nat.reduceLeDiff, Nat.reduceSub, Nat.reduceMul, Nat.reduceLT, Nat.reduceBEq, Nat.reduceAdd, Nat.reduceDiv, Nat.reduceMod]
  rintro _ _ rfl c hc
  refine swd hc (fun h0 => ?_) (fun h0 => ?_)
  ·refine nd_intro (by omega) ?_
   rintro m hm c2 hc2
   by_cases h1 : m = 45
   ·obtain rfl : c2 = true := by rw [hc2]; exact decide_eq_true h1
    have hI : numI s.data.toList = (natF s.data.toList.tail).bind fun n => if n = 0 ∨ 9223372036854775808 < n then none else some (-(n : Int)) := by
     unfold numI
     rw [if_pos ((head_45 (by omega)).2 (by omega))]
    simp (maxSteps:=9^9) only [go_sem, Int.reduceLT, Int.reduceLE, Int.reduceEq, Int.reduceNe, Int.reduceAdd, Int.reduceSub, Int.reduceMul, Int.reduceToNat, Int.reduceNeg, Nat.reduceEqDiff, Nat.reduceLeDiff, Nat.reduceSub, Nat.reduceMul, Nat.reduceLT, Nat.reduceBEq, Nat.reduceAdd, Nat.reduceDiv, Nat.reduceMod]
    refine nd_intro (by omega) ?_
    rintro u hu
    have hu2 : u.data.toList = s.data.toList.tail := by
     rw [hu, Go.Lib.extract_data]
     simp
     rw [List.take_of_length_le (by simp)]
    refine use72 (by have := congrArg List.length hu2; simp only [List.length_tail] at this; have e : u.data.toList.length = u.size := Array.length_toList; omega) (fun hn2 => ?_) (fun n hn2 hle => ?_)
    ·simp (maxSteps:=9^9) only [go_sem, Int.reduceLT, Int.reduceLE, Int.reduceEq, Int.reduceNe, Int.reduceAdd, Int.reduceSub, Int.reduceMul, Int.reduceToNat, Int.reduceNeg, Nat.reduceEqDiff, Nat.reduceLeDiff, Nat.reduceSub, Nat.reduceMul, Nat.reduceLT, Nat.reduceBEq, Nat.reduceAdd, Nat.reduceDiv, Nat.reduceMod]
     refine hn ?_
     rw [hI, ← hu2, hn2]
     rfl
    ·simp (maxSteps:=9^9) only [go_sem, Int.reduceLT, Int.reduceLE, Int.reduceEq, Int.reduceNe, Int.reduceAdd, Int.reduceSub, Int.reduceMul, Int.reduceToNat, Int.reduceNeg, Nat.reduceEqDiff, Nat.reduceLeDiff, Nat.reduceSub, Nat.reduceMul, Nat.reduceLT, Nat.reduceBEq, Nat.reduceAdd, Nat.reduceDiv, Nat.reduceMod]
     rw [hu2] at hn2
     rw [hn2] at hI
     simp only [Option.bind_some] at hI
     intro c3 hc3
     refine swd hc3 (fun h3 => hn ?_) (fun h3 => ?_)
     ·rw [hI, if_pos (.inl (by omega))]
     ·intro c4 hc4
      refine swd hc4 (fun h4 => hn ?_) (fun h4 => ?_)
      ·rw [hI, if_pos (.inr (by omega))]
      ·rintro _ m3 hm3 _ m4 hm4
       rw [wneg (by omega) (by omega)] at hm3
       rw [hm3, wback (by omega) (by omega)] at hm4
       rw [hm4]
       rw [if_neg (by omega)] at hI
       exact hk _ hI
   ·obtain rfl : c2 = false := by rw [hc2]; exact decide_eq_false h1
    simp (maxSteps:=9^9) only [go_sem, Int.reduceLT, Int.reduceLE, Int.reduceEq, Int.reduceNe, Int.reduceAdd, Int.reduceSub, Int.reduceMul, Int.reduceToNat, Int.reduceNeg, Nat.reduceEqDiff, Nat.reduceLeDiff, Nat.reduceSub, Nat.reduceMul, Nat.reduceLT, Nat.reduceBEq, Nat.reduceAdd, Nat.reduceDiv, Nat.reduceMod]
    have hI : numI s.data.toList = (natF s.data.toList).bind fun n => if 9223372036854775807 < n then none else some (n : Int) := by
     unfold numI
     rw [if_neg (fun h => h1 (by have := (head_45 (l := s.data.toList) (by omega)).1 h; omega))]
    refine use72 hs (fun hn2 => ?_) (fun n hn2 hle => ?_)
    ·simp (maxSteps:=9^9) only [go_sem, Int.reduceLT, Int.reduceLE, Int.reduceEq, Int.reduceNe, Int.reduceAdd, Int.reduceSub, Int.reduceMul, Int.reduceToNat, Int.reduceNeg, Nat.reduceEqDiff, Nat.reduceLeDiff, Nat.reduceSub, Nat.reduceMul, Nat.reduceLT, Nat.reduceBEq, Nat.reduceAdd, Nat.reduceDiv, Nat.reduceMod]
     refine hn ?_
     rw [hI, hn2]
     rfl
    ·simp (maxSteps:=9^9) only [go_sem, Int.reduceLT, Int.reduceLE, Int.reduceEq, Int.reduceNe, Int.reduceAdd, Int.reduceSub, Int.reduceMul, Int.reduceToNat, Int.reduceNeg, Nat.reduceEqDiff, Nat.reduceLeDiff, Nat.reduceSub, Nat.reduceMul, Nat.reduceLT, Nat.reduceBEq, Nat.reduceAdd, Nat.reduceDiv, Nat.reduceMod]
     rw [hn2] at hI
     simp only [Option.bind_some] at hI
     intro c4 hc4
     refine swd hc4 (fun h4 => hn ?_) (fun h4 => ?_)
     ·rw [hI, if_pos (by omega)]
     ·rw [if_neg (by omega)] at hI
      intro _ m5 hm5
      rw [w64 (by omega)] at hm5
      rw [hm5]
      exact hk _ hI
  ·have hI : numI s.data.toList = (natF s.data.toList).bind fun n => if 9223372036854775807 < n then none else some (n : Int) := by
    unfold numI
    rw [if_neg (fun h => by rw [List.length_eq_zero_iff.1 (show s.data.toList.length = 0 by omega)] at h; cases h)]
   refine use72 hs (fun hn2 => ?_) (fun n hn2 hle => ?_)
   ·simp (maxSteps:=9^9) only [go_sem, Int.reduceLT, Int.reduceLE, Int.reduceEq, Int.reduceNe, Int.reduceAdd, Int.reduceSub, Int.reduceMul, Int.reduceToNat, Int.reduceNeg, Nat.reduceEqDiff, Nat.reduceLeDiff, Nat.reduceSub, Nat.reduceMul, Nat.reduceLT, Nat.reduceBEq, Nat.reduceAdd, Nat.reduceDiv, Nat.reduceMod]
    refine hn ?_
    rw [hI, hn2]
    rfl
   ·simp (maxSteps:=9^9) only [go_sem, Int.reduceLT, Int.reduceLE, Int.reduceEq, Int.reduceNe, Int.reduceAdd, Int.reduceSub, Int.reduceMul, Int.reduceToNat, Int.reduceNeg, Nat.reduceEqDiff, Nat.reduceLeDiff, Nat.reduceSub, Nat.reduceMul, Nat.reduceLT, Nat.reduceBEq, Nat.reduceAdd, Nat.reduceDiv, Nat.reduceMod]
    rw [hn2] at hI
    simp only [Option.bind_some] at hI
    intro c4 hc4
    refine swd hc4 (fun h4 => hn ?_) (fun h4 => ?_)
    ·rw [hI, if_pos (by omega)]
    ·rw [if_neg (by omega)] at hI
     intro _ m5 hm5
     rw [w64 (by omega)] at hm5
     rw [hm5]
     exact hk _ hI
 ·exact h.elim
end Go.V
namespace Go.V
set_option linter.unusedSimpArgs false
set_option linter.unnecessarySimpa false
set_option linter.unusedVariables false
/-! ### quiet operations -/
def pickX (c a b : SV) : Option SV :=
 match c with
 | .bool c => some (bif c then a else b)
 | _ => none
theorem pickX_ok {c a b v : SV} {K : SV → Prop} (h : pickX c a b = some v) (hk : K v) : pickC c a b K := by
 unfold pickX at h; split at h <;> first | cases h | skip
 rename_i c; cases c <;> exact hk
def nckX (x : SV) : Option SV :=
 match x with
 | .ptr i off => some (.ptr i off)
 | .el i n sz off => some (.el i n sz off)
 | .rel p eb t xs n off => some (.rel p eb t xs n off)
 | .fn f caps => some (.fn f caps)
 | .pty i T => some (.pty i T)
 | _ => none
theorem nckX_ok {x v : SV} {K : SV → Prop} (h : nckX x = some v) (hk : K v) : nckC x K := by
 unfold nckX at h; split at h <;> first | cases h | skip
 all_goals exact hk
def faX (off : Nat) (x : SV) : Option SV :=
 match x with
 | .ptr i o => some (.ptr i (o + off))
 | .el i n sz o => some (.el i n sz (o + off))
 | .rel p eb t xs n o => some (.rel p eb t xs n (o + off))
 | .ptrA i o n sz => some (.ptrA i (o + off) n sz)
 | .pty i _ => some (.ptr i off)
 | _ => none
theorem faX_ok {off : Nat} {x v : SV} {K : SV → Prop} (h : faX off x = some v) (hk : K v) : faC off x K := by
 unfold faX at h; split at h <;> first | cases h | skip
 all_goals exact hk
def iaX (hp : List SB) (sz : Nat) (x i : SV) : Option SV :=
 match i with
 | .int _ n => match x with
  | .sl p eb t xs => if sz = t.size ∧ 0 ≤ n ∧ n < xs.length then some (.rel p eb t xs n.toNat 0) else none
  | .own j => match hp[j]? with
   | some (.row _ _ _ xs) => if 0 ≤ n ∧ n < xs.length then some (.el j n.toNat sz 0) else none
   | _ => none
  | .vw j lo hi sz' => match hp[j]? with
   | some (.row _ _ t xs) => if (sz = sz' ∧ sz = t.size) ∧ 0 ≤ n ∧ lo + n < hi ∧ hi ≤ xs.length then some (.el j (lo + n.toNat) sz 0) else none
   | _ => none
  | _ => none
 | _ => none
theorem iaX_ok {hp : List SB} {sz : Nat} {x i v : SV} {K : SV → Prop} (h : iaX hp sz x i = some v) (hk : K v) : iaC hp sz x i K := by
 unfold iaX at h
 split at h <;> first | cases h | skip
 split at h <;> first | cases h | skip
 ·split at h <;> first | cases h | skip
  rename_i hc
  exact ⟨hc.1, hc.2, fun _ m hm => hm ▸ hk⟩
 ·split at h <;> first | cases h | skip
  rename_i hh
  split at h <;> first | cases h | skip
  rename_i hc
  unfold iaC; simp only [hh]
  exact ⟨hc, fun _ m hm => hm ▸ hk⟩
 ·split at h <;> first | cases h | skip
  rename_i hh
  split at h <;> first | cases h | skip
  rename_i hc
  unfold iaC; simp only [hh]
  exact ⟨hc.1, hc.2, fun _ m hm => hm ▸ hk⟩
def iaAX (len sz : Nat) (x i : SV) : Option SV :=
 match i with
 | .int _ n => match x with
  | .ptr j off => if 0 ≤ n ∧ n < len then some (.ptrA j off n.toNat sz) else none
  | _ => none
 | _ => none
theorem iaAX_ok {len sz : Nat} {x i v : SV} {K : SV → Prop} (h : iaAX len sz x i = some v) (hk : K v) : iaAC len sz x i K := by
 unfold iaAX at h
 split at h <;> first | cases h | skip
 split at h <;> first | cases h | skip
 split at h <;> first | cases h | skip
 rename_i hc
 exact ⟨hc, fun _ m hm => hm ▸ hk⟩
def ixX (x i : SV) : Option SV :=
 match x with
 | .str b => match i with
  | .int _ n => if 0 ≤ n ∧ n < b.size then some (.int .u8 ((b.data.toList.getD n.toNat 0).toNat : Int)) else none
  | _ => none
 | _ => none
theorem ixX_ok {x i v : SV} {K : SV → Prop} (h : ixX x i = some v) (hk : K v) : ixC x i K := by
 unfold ixX at h
 split at h <;> first | cases h | skip
 split at h <;> first | cases h | skip
 split at h <;> first | cases h | skip
 rename_i hc
 exact ⟨hc, fun _ m hm => hm ▸ hk⟩
def seenX (hp : List SB) : SV → Option (List SV)
 | .ptr i off => match hp[i]? with
  | some (.struct cells) => dropC cells off
  | _ => none
 | .el i n sz off => match hp[i]? with
  | some (.row _ eb t xs) => if sz = t.size ∧ n < xs.length then dropC (t.sv true (xs.getD n t.dflt)) off else none
  | _ => none
 | .rel p eb t xs n off => if n < xs.length then dropC (t.sv p (xs.getD n t.dflt)) off else none
 | .ptrA i off n sz => match hp[i]? with
  | some (.struct cells) => match dropC cells off with
   | some (.arr m t xs :: _) => if sz = t.size ∧ n < m then some (t.sv true (xs.getD n t.dflt)) else none
   | _ => none
  | _ => none
 | _ => none
def ldZ (n : Option Nat) (l : Option (List SV)) : Option SV :=
 match n with
 | none => headO l
 | some n => takeO l n
theorem ldZ_some {n : Option Nat} {l : Option (List SV)} {v : SV} (h : ldZ n l = some v) : ∃ l', l = some l' := by
 cases l with
 | none => cases n <;> cases h
 | some l => exact ⟨l, rfl⟩
theorem ldZ_none {l : List SV} {v : SV} {K : SV → Prop} (h : ldZ none (some l) = some v) (hk : K v) : optC (headC l) K := by
 simp only [ldZ, headO] at h; simp only [h, optC]; exact hk
theorem ldZ_n {m : Nat} {l : List SV} {v : SV} {K : SV → Prop} (h : ldZ (some m) (some l) = some v) (hk : K v) : optC (aggO (takeC l m)) K := by
 simp only [ldZ, takeO] at h; simp only [h, optC]; exact hk
theorem ldZ_ok {hp : List SB} {x v : SV} {n : Option Nat} {K : SV → Prop} (h : ldZ n (seenX hp x) = some v) (hk : K v) : ldC hp x n K := by
 obtain ⟨l, hl⟩ := ldZ_some h
 rw [hl] at h
 unfold seenX at hl
 split at hl <;> first | cases hl | skip
 ·split at hl <;> first | cases hl | skip
  rename_i cells hh
  simp only [ldC, hh, hl, headO, takeO]
  cases n with
  | none => exact ldZ_none h hk
  | some n => exact ldZ_n h hk
 ·split at hl <;> first | cases hl | skip
  rename_i hh
  split at hl <;> first | cases hl | skip
  rename_i hc
  simp only [ldC, seen, hh, if_pos hc.1, hl, Option.map_some]
  refine ⟨hc.2, fun _ => ?_⟩
  cases n with
  | none => exact ldZ_none h hk
  | some n => exact ldZ_n h hk
 ·split at hl <;> first | cases hl | skip
  rename_i hc
  simp only [ldC, seen, hl, Option.map_some]
  refine ⟨hc, fun _ => ?_⟩
  cases n with
  | none => exact ldZ_none h hk
  | some n => exact ldZ_n h hk
 ·split at hl <;> first | cases hl | skip
  rename_i hh
  split at hl <;> first | cases hl | skip
  rename_i hd
  split at hl <;> first | cases hl | skip
  rename_i hc
  simp only [ldC, seen, hh, hd, if_pos hc.1]
  refine ⟨hc.2, fun _ => ?_⟩
  cases n with
  | none => exact ldZ_none h hk
  | some n => exact ldZ_n h hk
def beqB (a b : ByteArray) : Bool := a.data.toList == b.data.toList
theorem beqB_eq (a b : ByteArray) : decide (a = b) = beqB a b := by
 unfold beqB
 rw [Bool.eq_iff_iff, decide_eq_true_iff, beq_iff_eq]
 exact ⟨fun h => h ▸ rfl, fun h => ByteArray.ext (Array.ext' h)⟩
def binIX (op : BinOp) (k k' : IntKind) (a b : Int) : Option SV :=
 match op with
 | .shl => if 0 ≤ b then some (.int k (k.wrap (a * 2 ^ (min b.toNat k.bits)))) else none
 | .shr => if 0 ≤ b then some (.int k (a.fdiv (2 ^ (min b.toNat k.bits)))) else none
 | .add => if k = k' then some (.int k (k.wrap (a + b))) else none
 | .sub => if k = k' then some (.int k (k.wrap (a - b))) else none
 | .mul => if k = k' then some (.int k (k.wrap (a * b))) else none
 | .quo => if k = k' ∧ b ≠ 0 then some (.int k (k.wrap (a.tdiv b))) else none
 | .rem => if k = k' ∧ b ≠ 0 then some (.int k (a.tmod b)) else none
 | .and => if k = k' then some (.int k (bitsI .and k a b)) else none
 | .or => if k = k' then some (.int k (bitsI .or k a b)) else none
 | .xor => if k = k' then some (.int k (bitsI .xor k a b)) else none
 | .andNot => if k = k' then some (.int k (bitsI .andNot k a b)) else none
 | .eql => if k = k' then some (.bool (decide (a = b))) else none
 | .neq => if k = k' then some (.bool (!decide (a = b))) else none
 | .lss => if k = k' then some (.bool (decide (a < b))) else none
 | .leq => if k = k' then some (.bool (decide (a ≤ b))) else none
 | .gtr => if k = k' then some (.bool (decide (b < a))) else none
 | .geq => if k = k' then some (.bool (decide (b ≤ a))) else none
def binSX (op : BinOp) (a b : ByteArray) : Option SV :=
 match op with
 | .add => if a.size + b.size ≤ maxLen then some (.str ⟨⟨a.data.toList ++ b.data.toList⟩⟩) else none
 | .eql => some (.bool (beqB a b))
 | .neq => some (.bool (!beqB a b))
 | .lss => some (.bool (ltS a b))
 | .leq => some (.bool (ltS a b || beqB a b))
 | .gtr => some (.bool (!(ltS a b || beqB a b)))
 | .geq => some (.bool (!ltS a b))
 | _ => none
def binX (op : BinOp) (x y : SV) : Option SV :=
 match x with
 | .int k a => match y with
  | .int k' b => binIX op k k' a b
  | _ => none
 | .str a => match y with
  | .str b => binSX op a b
  | _ => none
 | _ => none
theorem binIX_ok {op : BinOp} {k k' : IntKind} {a b : Int} {v : SV} {K : SV → Prop} (h : binIX op k k' a b = some v) (hk : K v) : binC op k k' a b K := by
 cases op <;> (simp only [binIX] at h; split at h <;> first | cases h | skip) <;> rename_i hc <;> simp only [binC] <;>
  first
  | exact ⟨hc, fun _ _ _ m hm => hm ▸ hk⟩
  | exact ⟨hc, fun _ _ m hm => hm ▸ hk⟩
  | exact ⟨hc, fun m hm => hm ▸ hk⟩
  | exact ⟨hc.1, hc.2, fun _ _ _ m hm => hm ▸ hk⟩
theorem app_list (a b : ByteArray) : a ++ b = ⟨⟨a.data.toList ++ b.data.toList⟩⟩ := ByteArray.ext (Array.ext' (by simp [ByteArray.data_append]))
theorem binSX_ok {op : BinOp} {a b : ByteArray} {v : SV} {K : SV → Prop} (h : binSX op a b = some v) (hk : K v) : binSC op a b K := by
 cases op <;> simp only [binSX] at h <;> first | cases h | skip
 ·split at h <;> first | cases h | skip
  rename_i hc
  exact ⟨hc, fun m hm => by rw [hm, app_list]; exact hk⟩
 all_goals (simp only [binSC, gB, beqB_eq]; intro c hc; subst hc; exact hk)
theorem binX_ok {op : BinOp} {x y v : SV} {K : SV → Prop} (h : binX op x y = some v) (hk : K v) : binV op x y K := by
 unfold binX at h
 split at h <;> first | cases h | skip
 ·split at h <;> first | cases h | skip
  exact binIX_ok h hk
 ·split at h <;> first | cases h | skip
  exact binSX_ok h hk
def eqnX (ng : Bool) (k : NK) (x y : SV) : Option SV :=
 match k with
 | .p => match x with
  | .nilp => match y with
   | .nilp => some (.bool (!ng))
   | .ptr _ _ => some (.bool ng)
   | _ => none
  | .ptr _ _ => match y with
   | .nilp => some (.bool ng)
   | _ => none
  | _ => none
 | .s => match x with
  | .nils => match y with
   | .nils => some (.bool (!ng))
   | _ => none
  | _ => none
 | .m => match x with
  | .nilm => match y with
   | .nilm => some (.bool (!ng))
   | _ => none
  | .mp _ => match y with
   | .nilm => some (.bool ng)
   | _ => none
  | _ => none
 | .f => match x with
  | .nilf => match y with
   | .nilf => some (.bool (!ng))
   | _ => none
  | .fn _ _ => match y with
   | .nilf => some (.bool ng)
   | _ => none
  | _ => none
 | .i => none
theorem eqnX_ok {ng : Bool} {k : NK} {x y v : SV} {K : SV → Prop} (h : eqnX ng k x y = some v) (hk : K v) : eqnC ng k x y K := by
 unfold eqnX at h
 split at h <;> first | cases h | skip
 all_goals (split at h <;> first | cases h | skip)
 all_goals (split at h <;> first | cases h | skip)
 all_goals exact hk
def iaPX (x i : SV) : Option SV :=
 match i with
 | .int _ n => match x with
  | .svw j m => if 0 ≤ n ∧ n < m then some (.ptr j n.toNat) else none
  | _ => none
 | _ => none
def lenPX (x : SV) : Option SV :=
 match x with
 | .nils => some (.int .i64 0)
 | .svw _ m => some (.int .i64 m)
 | _ => none
theorem iaPX_ok {s : SS} {x i : Opd} {v : SV} {K : SV → Prop} (h : iaPX (s.get x) (s.get i) = some v) (hk : K v) : evC (.iaP x i) s K := by
 unfold iaPX at h
 split at h <;> first | cases h | skip
 rename_i hi
 split at h <;> first | cases h | skip
 rename_i hx
 split at h <;> first | cases h | skip
 rename_i hc
 simp only [evC, ev, hi, hx, qrC]
 exact ⟨hc, fun _ _ => hk⟩
theorem lenPX_ok {s : SS} {x : Opd} {v : SV} {K : SV → Prop} (h : lenPX (s.get x) = some v) (hk : K v) : evC (.lenP x) s K := by
 unfold lenPX at h
 split at h <;> first | cases h | skip
 all_goals
  rename_i hx
  simp only [evC, ev, hx, qrC]
  exact ⟨trivial, fun _ _ => hk⟩
def ixAX (len : Nat) (x i : SV) : Option SV :=
 match i with
 | .int _ n => match x with
  | .agg [.arr m t xs] => if (m = len ∧ t.size = 1) ∧ 0 ≤ n ∧ n < len then headC (t.sv true (xs.getD n.toNat t.dflt)) else none
  | _ => none
 | _ => none
theorem ixAX_ok {len : Nat} {x i v : SV} {K : SV → Prop} (h : ixAX len x i = some v) (hk : K v) : ixAC len x i K := by
 unfold ixAX at h
 split at h <;> first | cases h | skip
 split at h <;> first | cases h | skip
 split at h <;> first | cases h | skip
 rename_i hc
 simp only [ixAC, ixAV, if_pos hc.1, h, Option.map_some]
 exact ⟨hc.2, fun _ => hk⟩
def eqRX (ng : Bool) (n : Nat) (x y : SV) : Option SV :=
 match x with
 | .agg [.arr m (.int k) xs] => match y with
  | .agg [.arr m' (.int k') ys] => if m = n ∧ m' = n ∧ k = k' then some (.bool (bif ng then !(decide ((xs : List Int) = ys)) else (decide ((xs : List Int) = ys)))) else none
  | _ => none
 | _ => none
theorem eqRX_ok {ng : Bool} {n : Nat} {x y v : SV} {K : SV → Prop} (h : eqRX ng n x y = some v) (hk : K v) : eqRC ng n x y K := by
 unfold eqRX at h
 split at h <;> first | cases h | skip
 split at h <;> first | cases h | skip
 split at h <;> first | cases h | skip
 rename_i hc
 exact ⟨hc, fun c hc => hc ▸ hk⟩
def oneX (o : AOp) (s : SS) : Option SV :=
 match o with
 | .not x => match s.get x with
  | .bool b => some (.bool (!b))
  | _ => none
 | .binB ng x y => match s.get x with
  | .bool a => match s.get y with
   | .bool b => some (.bool (bif ng then !(a == b) else (a == b)))
   | _ => none
  | _ => none
 | .neg x => match s.get x with
  | .int k n => some (.int k (k.wrap (0 - n)))
  | _ => none
 | .cv k x => match s.get x with
  | .int k' n => some (.int k (k.wrap n))
  | _ => none
 | .cvS x => match s.get x with
  | .str b => some (.str b)
  | _ => none
 | .ext x i => match s.get x with
  | .tup l => l[i]?
  | _ => none
 | .mm mx x y => match s.get x with
  | .int k a => match s.get y with
   | .int k' b => if k = k' then some (.int k (bif mx then (if a < b then b else a) else (if b < a then b else a))) else none
   | _ => none
  | _ => none
 | .eqS ng ts x y => match s.get x with
  | .agg l => match s.get y with
   | .agg l' => match eqL ts l l' with
    | some b => some (.bool (bif ng then !b else b))
    | none => none
   | _ => none
  | _ => none
 | _ => none
theorem oneX_ok {o : AOp} {s : SS} {v : SV} {K : SV → Prop} (h : oneX o s = some v) (hk : K v) : evC o s K := by
 unfold oneX at h
 split at h <;> first | cases h | skip
 ·split at h <;> first | cases h | skip
  rename_i hx; simp only [evC, notC, hx]; exact hk
 ·split at h <;> first | cases h | skip
  rename_i hx
  split at h <;> first | cases h | skip
  rename_i hy; simp only [evC, binBC, hx, hy]; exact fun c hc => hc ▸ hk
 ·split at h <;> first | cases h | skip
  rename_i hx; simp only [evC, negC, hx]; exact fun _ c hc => hc ▸ hk
 ·split at h <;> first | cases h | skip
  rename_i hx; simp only [evC, cvC, hx]; exact fun _ c hc => hc ▸ hk
 ·split at h <;> first | cases h | skip
  rename_i hx; simp only [evC, cvSC, hx]; exact hk
 ·split at h <;> first | cases h | skip
  rename_i hx; simp only [evC, extC, hx, h, optC]; exact hk
 ·split at h <;> first | cases h | skip
  rename_i hx
  split at h <;> first | cases h | skip
  rename_i hy
  split at h <;> first | cases h | skip
  rename_i hc; simp only [evC, mmC, hx, hy]; exact ⟨hc, fun c hc => hc ▸ hk⟩
 ·split at h <;> first | cases h | skip
  rename_i hx
  split at h <;> first | cases h | skip
  rename_i hy
  split at h <;> first | cases h | skip
  rename_i hc; simp only [evC, eqSC, hx, hy, hc, eqOC]; exact fun c hc => hc ▸ hk
def b2sX (hp : List SB) (x : SV) : Option SV :=
 match x with
 | .nils => some (.str ByteArray.empty)
 | y => match cont hp y with
  | some ⟨_, _, .byte, xs⟩ => some (.str ⟨⟨(xs : List UInt8)⟩⟩)
  | _ => none
theorem b2sX_ok {hp : List SB} {x v : SV} {K : SV → Prop} (h : b2sX hp x = some v) (hk : K v) : b2sC hp x K := by
 cases x <;> first | (cases h; exact hk) | (simp only [b2sX] at h; split at h <;> first | (cases h; done) | (rename_i hc; cases h; simp only [b2sC, hc]; exact fun c hc => hc ▸ hk))
def lenSX (hp : List SB) (x : SV) : Option SV :=
 match x with
 | .nils => some (.int .i64 0)
 | y => match cont hp y with
  | some C => some (.int .i64 C.xs.length)
  | none => none
theorem lenSX_ok {hp : List SB} {x v : SV} {K : SV → Prop} (h : lenSX hp x = some v) (hk : K v) : lenC hp .s x K := by
 cases x <;> first | (cases h; exact hk) | (simp only [lenSX] at h; split at h <;> first | (cases h; done) | (rename_i hc; cases h; simp only [lenC, hc]; exact fun _ _ c hc => hc ▸ hk))
def lenX (hp : List SB) (k : NK) (x : SV) : Option SV :=
 match k with
 | .i => match x with
  | .str b => some (.int .i64 b.size)
  | _ => none
 | .m => match x with
  | .nilm => some (.int .i64 0)
  | .mp i => match hp[i]? with
   | some (.map _ _ _ m) => some (.int .i64 m.length)
   | _ => none
  | _ => none
 | .s => lenSX hp x
 | _ => none
theorem lenX_ok {hp : List SB} {k : NK} {x v : SV} {K : SV → Prop} (h : lenX hp k x = some v) (hk : K v) : lenC hp k x K := by
 unfold lenX at h
 split at h <;> first | cases h | skip
 ·split at h <;> first | cases h | skip
  exact fun _ c hc => hc ▸ hk
 ·split at h <;> first | cases h | skip
  ·exact hk
  ·split at h <;> first | cases h | skip
   rename_i hh; simp only [lenC, hh]; exact fun _ c hc => hc ▸ hk
 ·exact lenSX_ok h hk
def lkX (hp : List SB) (va : Bool) (kt vt : Ty) (ok : Bool) (x k : SV) : Option SV :=
 match x with
 | .nilm => match kt.keyOf k with
  | some _ => match toV va true vt vt.dflt with
   | some z => some (bif ok then .tup [z, .bool false] else z)
   | none => none
  | none => none
 | .mp i => match hp[i]? with
  | some (.map va' kt' vt' m) => if va' = va ∧ kt' = kt ∧ vt' = vt then match kt'.keyOf k with
    | some key => match toV va' true vt' ((lookM kt' vt' m key).getD vt'.dflt) with
     | some z => some (bif ok then .tup [z, .bool (lookM kt' vt' m key).isSome] else z)
     | none => none
    | none => none
   else none
  | _ => none
 | _ => none
theorem lkX_ok {hp : List SB} {va : Bool} {kt vt : Ty} {ok : Bool} {x k v : SV} {K : SV → Prop} (h : lkX hp va kt vt ok x k = some v) (hk : K v) : lkC2 hp va kt vt ok x k K := by
 unfold lkX at h
 split at h <;> first | cases h | skip
 ·split at h <;> first | cases h | skip
  rename_i key hkey
  split at h <;> first | cases h | skip
  rename_i z hz
  simp only [lkC2, hkey]
  intro y b hy hb
  simp only [Option.getD_none] at hy
  subst hy hb
  simp only [hz]
  cases ok <;> exact hk
 split at h <;> first | cases h | skip
 rename_i hh
 split at h <;> first | cases h | skip
 rename_i hc
 split at h <;> first | cases h | skip
 rename_i key hkey
 split at h <;> first | cases h | skip
 rename_i z hz
 simp only [lkC2, hh, hkey]
 refine ⟨hc, fun y b hy hb => ?_⟩
 subst hy hb
 simp only [hz]
 cases ok <;> exact hk
def bdX (s : SS) (d : Int) (o : Option Opd) : Option Int :=
 match o with
 | none => some d
 | some x => match s.get x with
  | .int _ n => some n
  | _ => none
theorem bdX_ok {s : SS} {d n : Int} {o : Option Opd} {K : Int → Prop} (h : bdX s d o = some n) (hk : K n) : bdC s d o K := by
 unfold bdX at h
 split at h
 ·cases h; exact hk
 ·split at h <;> first | cases h | skip
  rename_i hx; simp only [bdC, hx]; exact hk
def bd2X (s : SS) (d : Nat) (lo hi : Option Opd) : Option (Nat × Nat) :=
 match bdX s 0 lo with
 | some l => match bdX s d hi with
  | some h => if 0 ≤ l ∧ l ≤ h ∧ h ≤ d then some (l.toNat, h.toNat) else none
  | none => none
 | none => none
theorem bd2X_ok {s : SS} {d a b : Nat} {lo hi : Option Opd} {K : Int → Int → Prop} (h : bd2X s d lo hi = some (a, b)) (hk : ∀ l h : Int, (0 ≤ l ∧ l ≤ h ∧ h ≤ d) → a = l.toNat → b = h.toNat → K l h) :
  bdC s 0 lo fun l => bdC s d hi fun h => K l h := by
 unfold bd2X at h
 split at h <;> first | cases h | skip
 rename_i hl
 split at h <;> first | cases h | skip
 rename_i hh
 split at h <;> first | cases h | skip
 rename_i hc
 exact bdX_ok hl (bdX_ok hh (hk _ _ hc rfl rfl))
def slRX (s : SS) (sz : Nat) (x : SV) (lo hi : Option Opd) : Option SV :=
 match x with
 | .nils => match bd2X s 0 lo hi with
  | some _ => some .nils
  | none => none
 | .sl p eb t xs => if sz = t.size then match bd2X s xs.length lo hi with
   | some (l, h) => some (.sl p eb t ((xs.drop l).take (h - l)))
   | none => none
  else none
 | .own j => match s.hp[j]? with
  | some (.row _ _ t xs) => if sz = t.size then match bd2X s xs.length lo hi with
    | some (l, h) => some (.vw j l h sz)
    | none => none
   else none
  | _ => none
 | .vw j a b sz' => match s.hp[j]? with
  | some (.row _ _ t xs) => if sz = sz' ∧ sz = t.size then match bd2X s (b - a) lo hi with
    | some (l, h) => some (.vw j (a + l) (a + h) sz)
    | none => none
   else none
  | _ => none
 | _ => none
theorem slRX_ok {s : SS} {sz : Nat} {x v : SV} {lo hi : Option Opd} {K : SV → Prop} (h : slRX s sz x lo hi = some v) (hk : K v) : slRC s sz x lo hi K := by
 unfold slRX at h
 split at h <;> first | cases h | skip
 ·split at h <;> first | cases h | skip
  rename_i p hb
  unfold slRC
  exact bd2X_ok (d := 0) (a := p.1) (b := p.2) hb fun l h hc _ _ => ⟨by have := hc.2.2; have := hc.1; have := hc.2.1; simp at *; omega, fun _ _ => hk⟩
 ·split at h <;> first | cases h | skip
  rename_i hs
  split at h <;> first | cases h | skip
  rename_i hb
  exact ⟨hs, bd2X_ok hb fun l h hc ha hb => ⟨hc, fun _ _ _ ys hy => by rw [hy, ← ha, ← hb]; exact hk⟩⟩
 ·split at h <;> first | cases h | skip
  rename_i hh
  split at h <;> first | cases h | skip
  rename_i hs
  split at h <;> first | cases h | skip
  rename_i hb
  simp only [slRC, hh, slRO]
  exact ⟨hs, bd2X_ok hb fun l h hc ha hb => ⟨hc, fun _ _ _ a' b' hy hz => by rw [hy, hz, ← ha, ← hb]; exact hk⟩⟩
 ·split at h <;> first | cases h | skip
  rename_i hh
  split at h <;> first | cases h | skip
  rename_i hs
  split at h <;> first | cases h | skip
  rename_i hb
  simp only [slRC, hh, slRV]
  exact ⟨hs, bd2X_ok hb fun l h hc ha hb => ⟨hc, fun _ _ _ a' b' hy hz => by rw [hy, hz, ← ha, ← hb]; exact hk⟩⟩
def slSX (s : SS) (x : SV) (lo hi : Option Opd) : Option SV :=
 match x with
 | .str b => match bd2X s b.size lo hi with
  | some (l, h) => some (.str ⟨⟨(b.data.toList.drop l).take (h - l)⟩⟩)
  | none => none
 | _ => none
theorem ext_list (b : ByteArray) (l h : Nat) : b.extract l h = ⟨⟨(b.data.toList.drop l).take (h - l)⟩⟩ := ByteArray.ext (Array.ext' (by simp [ByteArray.data_extract, List.extract]))
theorem slSX_ok {s : SS} {x v : SV} {lo hi : Option Opd} {K : SV → Prop} (h : slSX s x lo hi = some v) (hk : K v) : slSC s x lo hi K := by
 unfold slSX at h
 split at h <;> first | cases h | skip
 split at h <;> first | cases h | skip
 rename_i hb
 unfold slSC
 exact bd2X_ok hb fun l h hc ha hb => ⟨hc, fun _ _ _ ys hy => by rw [hy, ← ha, ← hb, ext_list]; exact hk⟩
def evX (o : AOp) (s : SS) : Option SV :=
 match o with
 | .mv x => some (s.get x)
 | .pick c a b => pickX (s.get c) (s.get a) (s.get b)
 | .nck x => nckX (s.get x)
 | .fld off n x => fldV off n (s.get x)
 | .fa off x => faX off (s.get x)
 | .ia sz x i => iaX s.hp sz (s.get x) (s.get i)
 | .iaA len sz x i => iaAX len sz (s.get x) (s.get i)
 | .ixS x i => ixX (s.get x) (s.get i)
 | .ixA len x i => ixAX len (s.get x) (s.get i)
 | .eqR ng n x y => eqRX ng n (s.get x) (s.get y)
 | .ld x => ldZ none (seenX s.hp (s.get x))
 | .ldA n x => ldZ (some n) (seenX s.hp (s.get x))
 | .bin op x y => binX op (s.get x) (s.get y)
 | .eqn ng k x y => eqnX ng k (s.get x) (s.get y)
 | .b2s x => b2sX s.hp (s.get x)
 | .len k x => lenX s.hp k (s.get x)
 | .lk va kt vt ok x k => lkX s.hp va kt vt ok (s.get x) (s.get k)
 | .bld zs parts => aggO (bldC s zs parts)
 | .bldA zs n t parts => arrO n t (bldC s zs parts)
 | .mkf f caps => some (.fn f (caps.map s.get))
 | .slR sz x lo hi => slRX s sz (s.get x) lo hi
 | .slS x lo hi => slSX s (s.get x) lo hi
 | .iaP x i => iaPX (s.get x) (s.get i)
 | .lenP x => lenPX (s.get x)
 | o => oneX o s
theorem evX_ok {o : AOp} {s : SS} {v : SV} {K : SV → Prop} (h : evX o s = some v) (hk : K v) : evC o s K := by
 cases o with
 | mv x => cases h; exact hk
 | pick c a b => exact pickX_ok h hk
 | nck x => exact nckX_ok h hk
 | fld off n x => simp only [evX] at h; simp only [evC, h, optC]; exact hk
 | fa off x => exact faX_ok h hk
 | ia sz x i => exact iaX_ok h hk
 | iaA len sz x i => exact iaAX_ok h hk
 | ixS x i => exact ixX_ok h hk
 | ixA len x i => exact ixAX_ok h hk
 | eqR ng n x y => exact eqRX_ok h hk
 | ld x => exact ldZ_ok (n := none) (hp := s.hp) (x := s.get x) h hk
 | ldA n x => exact ldZ_ok (n := some n) (hp := s.hp) (x := s.get x) h hk
 | bin op x y => exact binX_ok h hk
 | eqn ng k x y => exact eqnX_ok h hk
 | b2s x => exact b2sX_ok h hk
 | len k x => exact lenX_ok h hk
 | lk va kt vt ok x k => exact lkX_ok h hk
 | bld zs parts => simp only [evX] at h; simp only [evC, h, optC]; exact hk
 | bldA zs n t parts => simp only [evX] at h; simp only [evC, h, optC]; exact hk
 | mkf f caps => cases h; exact hk
 | slR sz x lo hi => exact slRX_ok h hk
 | slS x lo hi => exact slSX_ok h hk
 | iaP x i => exact iaPX_ok (x := x) (i := i) h hk
 | lenP x => exact lenPX_ok (x := x) h hk
 | _ => exact oneX_ok h hk
end Go.V
