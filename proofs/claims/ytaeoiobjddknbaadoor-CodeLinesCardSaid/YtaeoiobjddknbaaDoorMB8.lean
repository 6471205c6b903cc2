/- A text's lines; parsing. -/
import Derived.Test.YtaeoiobjddknbaaDoorMN2
import Derived.Test.YtaeoiobjddknbaaDoorMA64
namespace Go.V
open Go.Proofs
set_option maxRecDepth 100000
set_option maxHeartbeats 8000000
set_option linter.unusedSimpArgs false
set_option linter.unnecessarySimpa false
set_option linter.unusedVariables false
attribute [local irreducible] rc
theorem use25 {s : ByteArray} {K : SV → List SB → Prop} (hs : s.size ≤ 100000) (h1 : nameL.isPrefixOf s.data.toList = true → K (.tup [.str (bsOf (s.data.toList.drop 5)), .bool true]) []) (h2 : ¬ nameL.isPrefixOf s.data.toList = true → K (.tup [.str s, .bool false]) []) : C25 [.str s, .str ⟨#[110, 97, 109, 101, 32]⟩] [] K := by
 have hmx := maxLen_val
 have e1 : cutp2 s ⟨#[110, 97, 109, 101, 32]⟩ = nameL.isPrefixOf s.data.toList := rfl
 have e2 : cutp1 s ⟨#[110, 97, 109, 101, 32]⟩ = bsOf (if nameL.isPrefixOf s.data.toList then s.data.toList.drop 5 else s.data.toList) := rfl
 refine ⟨?_, ?_⟩
 ·rw [e2, bsOf_size]
  have := size_L s
  split <;> simp <;> omega
 ·rw [e1, e2]
  cases hp : nameL.isPrefixOf s.data.toList with
  | true => rw [hp] at h1; exact h1 rfl
  | false => rw [hp] at h2; exact h2 (by simp)
theorem use26 {s : ByteArray} {K : SV → List SB → Prop} (hs : s.size ≤ 100000) (h1 : unhexF s = none → K (.tup [.str ByteArray.empty, .bool false]) []) (h2 : ∀ l, unhexF s = some l → K (.tup [.str (bsOf l), .bool (keyOk (bsOf l))]) []) : C26 [.str s] [] K := ⟨hs, h1, h2⟩
theorem use27 {s : ByteArray} {K : SV → List SB → Prop} (hs : s.size ≤ 100000) (h1 : instrF s.data.toList = none → ∀ a b : Int, K (.tup [.agg [.int .i64 a, .int .i64 b], .bool false]) []) (h2 : ∀ j n, instrF s.data.toList = some (j, n) → K (.tup [.agg [.int .i64 j, .int .i64 n], .bool true]) []) : C27 [.str s] [] K := ⟨hs, h1, h2⟩
theorem use17 {ns : List ByteArray} {cs : List EvT.den} {K : SV → List SB → Prop} (h : K (.bool (formP ns cs)) []) : C17 [.agg [.sl true 16 .str ns, .sl true 16 EvT cs]] [] K := .inr ⟨_, _, rfl, .inr ⟨_, _, rfl, h⟩⟩
def pOut (K : SV → List SB → Prop) : PR → Prop
 | .bad i => K (.tup [.agg [.nils, .nils], .int .i64 i, .int .i64 2]) []
 | .fin ns cs late => if late = true ∨ formP ns cs = false then K (.tup [.agg [.nils, .nils], .int .i64 0, .int .i64 2]) [] else K (.tup [.agg [.sl true 16 .str ns, .sl true 16 EvT cs], .int .i64 0, .int .i64 0]) []
def C9 : Contract := fun args hp K => match args, hp with
 | [.str s], [] => (20000 < s.size → K (.tup [.agg [.nils, .nils], .int .i64 0, .int .i64 4]) []) ∧ (s.size ≤ 20000 → pOut K (parseGo (linesL s.data.toList) 1 [] [] false))
 | _, _ => False
structure U9 where
 r : ByteArray
 i : Nat
 ns : List ByteArray
 cs : List EvT.den
 late : Bool
def R9 (s : ByteArray) (g : U9) : Prop := (g.i + g.r.size ≤ s.size ∧ g.ns.length ≤ g.i ∧ g.cs.length ≤ g.i) ∧ parseGo (linesL s.data.toList) 1 [] [] false = parseGo (linesL g.r.data.toList) (g.i + 1 : Nat) g.ns g.cs g.late
def L9 (s : ByteArray) : LoopAnn := { G := U9, I := fun g => ⟨[(0, .str g.r), (2, .ptr 0 0), (5, .ptr 1 0), (6, .bool g.late), (7, .int .i64 (g.i + 1 : Nat))], [.struct [.nils, .nils], .struct [.own 2, .own 3], .row true 16 .str g.ns, .row true 16 EvT g.cs]⟩, R := fun _ g => R9 s g, μ := fun g => g.r.size }
theorem L9_I {s : ByteArray} (g : U9) : (L9 s).I g = ⟨[(0, .str g.r), (2, .ptr 0 0), (5, .ptr 1 0), (6, .bool g.late), (7, .int .i64 (g.i + 1 : Nat))], [.struct [.nils, .nils], .struct [.own 2, .own 3], .row true 16 .str g.ns, .row true 16 EvT g.cs]⟩ := rfl
theorem s9 : Sound Tryd.prog 9 C9 := by
  refine sound_of_okF ok9 (.cons s24 ⟨_, Tryd.func24, rfl, by decide⟩ (.cons s25 ⟨_, Tryd.func25, rfl, by decide⟩ (.cons s26 (callable_of_okF ok26) (.cons s27 (callable_of_okF ok27) (.cons s17 (callable_of_okF ok17) .nil))))) ?_
  intro args hp K h
  unfold C9 at h
  split at h
  · rename_i s
    obtain ⟨ha, h⟩ := h
    have hmx := maxLen_val
    refine ⟨by simp, [(1, L9 s)], ?_⟩
    simp (maxSteps:=9^9) only [a9, r9, go_sem, Int.reduceLT, Int.reduceLE, Int.reduceEq, Int.reduceNe, Int.reduceAdd, Int.reduceSub, Int.reduceMul, Int.reduceToNat, Int.reduceNeg, Nat.reduceEqDiff, Nat.reduceLeDiff, Nat.reduceSub, Nat.reduceMul, Nat.reduceLT, Nat.reduceBEq, Nat.reduceAdd]
    rintro _ _ rfl c hc
    refine swd hc (fun h0 => ?_) (fun h0 => ?_)
    · exact ha (by omega)
    · have h := h (by omega)
      refine loop_intro (A := L9 s) (⟨s, 0, [], [], false⟩ : U9) ?_ ⟨⟨by simp, by simp, by simp⟩, rfl⟩ ?_
      · simp (maxSteps:=9^9) only [go_sem, Int.reduceLT, Int.reduceLE, Int.reduceEq, Int.reduceNe, Int.reduceAdd, Int.reduceSub, Int.reduceMul, Int.reduceToNat, Int.reduceNeg, Nat.reduceEqDiff, Nat.reduceLeDiff, Nat.reduceSub, Nat.reduceMul, Nat.reduceLT, Nat.reduceBEq, Nat.reduceAdd]
        rfl
      · rintro (⟨r, i, ns, cs, late⟩ : U9) (⟨⟨g1, g2, g3⟩, g4⟩ : R9 s ⟨r, i, ns, cs, late⟩)
        simp only at g1 g2 g3 g4
        simp (maxSteps:=9^9) only [L9_I, go_sem, Int.reduceLT, Int.reduceLE, Int.reduceEq, Int.reduceNe, Int.reduceAdd, Int.reduceSub, Int.reduceMul, Int.reduceToNat, Int.reduceNeg, Nat.reduceEqDiff, Nat.reduceLeDiff, Nat.reduceSub, Nat.reduceMul, Nat.reduceLT, Nat.reduceBEq, Nat.reduceAdd]
        intro c2 hc2
        refine swn hc2 (fun h1 => ?_) (fun h1 => ?_)
        · have hne : r.data.toList ≠ [] := fun e => h1 (by rw [← bsOf_data r, e]; rfl)
          have hL : linesL r.data.toList = (cut1 r ⟨#[10]⟩).data.toList :: linesL (cut2 r ⟨#[10]⟩).data.toList := by
            rw [linesL_cut hne]
            simp [cut1, cut2, bsOf]
          have hz1 := cut_size r 10
          have hz2 : (cut2 r ⟨#[10]⟩).size < r.size := by
            have := cut_lt (c := 10) hne
            rw [← size_L r] at this
            have e : (cut2 r ⟨#[10]⟩).size = (Go.Lib.cut r.data.toList [10]).2.1.length := by unfold cut2; rw [bsOf_size]
            omega
          rw [hL] at g4
          simp only [parseGo] at g4
          refine use24 (by omega) ?_
          simp (maxSteps:=9^9) only [go_sem, Int.reduceLT, Int.reduceLE, Int.reduceEq, Int.reduceNe, Int.reduceAdd, Int.reduceSub, Int.reduceMul, Int.reduceToNat, Int.reduceNeg, Nat.reduceEqDiff, Nat.reduceLeDiff, Nat.reduceSub, Nat.reduceMul, Nat.reduceLT, Nat.reduceBEq, Nat.reduceAdd]
          generalize cut1 r ⟨#[10]⟩ = ln at *
          generalize cut2 r ⟨#[10]⟩ = rs at *
          refine use25 (by omega) (fun hp => ?_) (fun hp => ?_)
          · have hname : lineF ln.data.toList = (unhexL (ln.data.toList.drop 5)).bind fun k => if keyOk (bsOf k) then some (.inl (bsOf k)) else none := by
              unfold lineF
              rw [if_pos hp]
            simp (maxSteps:=9^9) only [go_sem, Int.reduceLT, Int.reduceLE, Int.reduceEq, Int.reduceNe, Int.reduceAdd, Int.reduceSub, Int.reduceMul, Int.reduceToNat, Int.reduceNeg, Nat.reduceEqDiff, Nat.reduceLeDiff, Nat.reduceSub, Nat.reduceMul, Nat.reduceLT, Nat.reduceBEq, Nat.reduceAdd]
            have hd : (bsOf (ln.data.toList.drop 5)).data.toList = ln.data.toList.drop 5 := by simp [bsOf]
            have hln := size_L ln
            refine use26 (by rw [bsOf_size, List.length_drop]; omega) (fun hu => ?_) (fun l hu => ?_)
            · simp (maxSteps:=9^9) only [go_sem, Int.reduceLT, Int.reduceLE, Int.reduceEq, Int.reduceNe, Int.reduceAdd, Int.reduceSub, Int.reduceMul, Int.reduceToNat, Int.reduceNeg, Nat.reduceEqDiff, Nat.reduceLeDiff, Nat.reduceSub, Nat.reduceMul, Nat.reduceLT, Nat.reduceBEq, Nat.reduceAdd]
              have hn : lineF ln.data.toList = none := by
                rw [hname, ← hd]
                show (unhexF _).bind _ = none
                rw [hu]
                rfl
              rw [hn] at g4
              rw [g4] at h
              exact h
            · simp (maxSteps:=9^9) only [go_sem, Int.reduceLT, Int.reduceLE, Int.reduceEq, Int.reduceNe, Int.reduceAdd, Int.reduceSub, Int.reduceMul, Int.reduceToNat, Int.reduceNeg, Nat.reduceEqDiff, Nat.reduceLeDiff, Nat.reduceSub, Nat.reduceMul, Nat.reduceLT, Nat.reduceBEq, Nat.reduceAdd]
              have hl : lineF ln.data.toList = if keyOk (bsOf l) then some (.inl (bsOf l)) else none := by
                rw [hname, ← hd]
                show (unhexF _).bind _ = _
                rw [hu]
                rfl
              cases hk : keyOk (bsOf l) with
              | false =>
                rw [hk] at hl
                rw [hl] at g4
                rw [g4] at h
                simp (maxSteps:=9^9) only [go_sem, Int.reduceLT, Int.reduceLE, Int.reduceEq, Int.reduceNe, Int.reduceAdd, Int.reduceSub, Int.reduceMul, Int.reduceToNat, Int.reduceNeg, Nat.reduceEqDiff, Nat.reduceLeDiff, Nat.reduceSub, Nat.reduceMul, Nat.reduceLT, Nat.reduceBEq, Nat.reduceAdd]
                exact h
              | true =>
                rw [hk] at hl
                rw [hl] at g4
                simp (maxSteps:=9^9) only [go_sem, Int.reduceLT, Int.reduceLE, Int.reduceEq, Int.reduceNe, Int.reduceAdd, Int.reduceSub, Int.reduceMul, Int.reduceToNat, Int.reduceNeg, Nat.reduceEqDiff, Nat.reduceLeDiff, Nat.reduceSub, Nat.reduceMul, Nat.reduceLT, Nat.reduceBEq, Nat.reduceAdd]
                simp only [if_true] at g4
                have ei : ((i + 1 : Nat) : Int) + 1 = ((i + 1 + 1 : Nat) : Int) := by omega
                rw [ei] at g4
                cases late with
                | true =>
                  rw [Bool.true_or] at g4
                  refine ⟨fun _ => by omega, fun _ => ?_⟩
                  rintro _ _ m9 hm9
                  rw [w64 (by omega)] at hm9
                  rw [hm9, ei]
                  refine lpE_intro (A := L9 s) (⟨rs, i + 1, ns ++ [bsOf l], cs, true⟩ : U9) ?_ ⟨⟨by show i + 1 + rs.size ≤ s.size; omega, by simp <;> omega, by simp <;> omega⟩, g4⟩ (by show rs.size < r.size; omega)
                  simp (maxSteps:=9^9) only [L9_I, go_sem, Int.reduceLT, Int.reduceLE, Int.reduceEq, Int.reduceNe, Int.reduceAdd, Int.reduceSub, Int.reduceMul, Int.reduceToNat, Int.reduceNeg, Nat.reduceEqDiff, Nat.reduceLeDiff, Nat.reduceSub, Nat.reduceMul, Nat.reduceLT, Nat.reduceBEq, Nat.reduceAdd]
                | false =>
                  rw [Bool.false_or] at g4
                  rintro _ _ _ rfl c3 hc3
                  refine ⟨fun _ => by omega, fun _ => ?_⟩
                  have hc3' : c3 = decide (0 < cs.length) := by rw [hc3]; exact decide_eq_decide.2 (by omega)
                  rw [← hc3'] at g4
                  rintro _ _ m9 hm9
                  rw [w64 (by omega)] at hm9
                  rw [hm9, ei]
                  refine lpE_intro (A := L9 s) (⟨rs, i + 1, ns ++ [bsOf l], cs, c3⟩ : U9) ?_ ⟨⟨by show i + 1 + rs.size ≤ s.size; omega, by simp <;> omega, by simp <;> omega⟩, g4⟩ (by show rs.size < r.size; omega)
                  simp (maxSteps:=9^9) only [L9_I, go_sem, Int.reduceLT, Int.reduceLE, Int.reduceEq, Int.reduceNe, Int.reduceAdd, Int.reduceSub, Int.reduceMul, Int.reduceToNat, Int.reduceNeg, Nat.reduceEqDiff, Nat.reduceLeDiff, Nat.reduceSub, Nat.reduceMul, Nat.reduceLT, Nat.reduceBEq, Nat.reduceAdd]
          · have hname : lineF ln.data.toList = (instrF ln.data.toList).map .inr := by
              unfold lineF
              rw [if_neg hp]
            simp (maxSteps:=9^9) only [go_sem, Int.reduceLT, Int.reduceLE, Int.reduceEq, Int.reduceNe, Int.reduceAdd, Int.reduceSub, Int.reduceMul, Int.reduceToNat, Int.reduceNeg, Nat.reduceEqDiff, Nat.reduceLeDiff, Nat.reduceSub, Nat.reduceMul, Nat.reduceLT, Nat.reduceBEq, Nat.reduceAdd]
            refine use27 (by omega) (fun hu a b => ?_) (fun j n hu => ?_)
            · simp (maxSteps:=9^9) only [go_sem, Int.reduceLT, Int.reduceLE, Int.reduceEq, Int.reduceNe, Int.reduceAdd, Int.reduceSub, Int.reduceMul, Int.reduceToNat, Int.reduceNeg, Nat.reduceEqDiff, Nat.reduceLeDiff, Nat.reduceSub, Nat.reduceMul, Nat.reduceLT, Nat.reduceBEq, Nat.reduceAdd]
              rw [hname, hu] at g4
              rw [g4] at h
              exact h
            · simp (maxSteps:=9^9) only [go_sem, Int.reduceLT, Int.reduceLE, Int.reduceEq, Int.reduceNe, Int.reduceAdd, Int.reduceSub, Int.reduceMul, Int.reduceToNat, Int.reduceNeg, Nat.reduceEqDiff, Nat.reduceLeDiff, Nat.reduceSub, Nat.reduceMul, Nat.reduceLT, Nat.reduceBEq, Nat.reduceAdd]
              rw [hname, hu] at g4
              simp only [Option.map_some] at g4
              have ei : ((i + 1 : Nat) : Int) + 1 = ((i + 1 + 1 : Nat) : Int) := by omega
              rw [ei] at g4
              refine ⟨fun _ => by omega, fun _ => ?_⟩
              rintro _ _ m9 hm9
              rw [w64 (by omega)] at hm9
              rw [hm9, ei]
              refine lpE_intro (A := L9 s) (⟨rs, i + 1, ns, cs ++ [(j, n)], late⟩ : U9) ?_ ⟨⟨by show i + 1 + rs.size ≤ s.size; omega, by simp <;> omega, by simp <;> omega⟩, g4⟩ (by show rs.size < r.size; omega)
              simp (maxSteps:=9^9) only [L9_I, go_sem, Int.reduceLT, Int.reduceLE, Int.reduceEq, Int.reduceNe, Int.reduceAdd, Int.reduceSub, Int.reduceMul, Int.reduceToNat, Int.reduceNeg, Nat.reduceEqDiff, Nat.reduceLeDiff, Nat.reduceSub, Nat.reduceMul, Nat.reduceLT, Nat.reduceBEq, Nat.reduceAdd]
        · subst h1
          rw [show linesL ByteArray.empty.data.toList = [] from rfl] at g4
          simp only [parseGo] at g4
          rw [g4] at h
          simp only [pOut] at h
          cases late with
          | true =>
            simp (maxSteps:=9^9) only [go_sem, Int.reduceLT, Int.reduceLE, Int.reduceEq, Int.reduceNe, Int.reduceAdd, Int.reduceSub, Int.reduceMul, Int.reduceToNat, Int.reduceNeg, Nat.reduceEqDiff, Nat.reduceLeDiff, Nat.reduceSub, Nat.reduceMul, Nat.reduceLT, Nat.reduceBEq, Nat.reduceAdd]
            rw [if_pos (.inl rfl)] at h
            exact h
          | false =>
            simp (maxSteps:=9^9) only [go_sem, Int.reduceLT, Int.reduceLE, Int.reduceEq, Int.reduceNe, Int.reduceAdd, Int.reduceSub, Int.reduceMul, Int.reduceToNat, Int.reduceNeg, Nat.reduceEqDiff, Nat.reduceLeDiff, Nat.reduceSub, Nat.reduceMul, Nat.reduceLT, Nat.reduceBEq, Nat.reduceAdd]
            refine use17 ?_
            cases hf : formP ns cs with
            | true =>
              rw [hf, if_neg (by simp)] at h
              simp (maxSteps:=9^9) only [go_sem, Int.reduceLT, Int.reduceLE, Int.reduceEq, Int.reduceNe, Int.reduceAdd, Int.reduceSub, Int.reduceMul, Int.reduceToNat, Int.reduceNeg, Nat.reduceEqDiff, Nat.reduceLeDiff, Nat.reduceSub, Nat.reduceMul, Nat.reduceLT, Nat.reduceBEq, Nat.reduceAdd]
              exact h
            | false =>
              rw [hf, if_pos (.inr rfl)] at h
              simp (maxSteps:=9^9) only [go_sem, Int.reduceLT, Int.reduceLE, Int.reduceEq, Int.reduceNe, Int.reduceAdd, Int.reduceSub, Int.reduceMul, Int.reduceToNat, Int.reduceNeg, Nat.reduceEqDiff, Nat.reduceLeDiff, Nat.reduceSub, Nat.reduceMul, Nat.reduceLT, Nat.reduceBEq, Nat.reduceAdd]
              exact h
  · exact h.elim
end Go.V
namespace Go.V
open Go.Proofs
set_option maxRecDepth 100000
set_option maxHeartbeats 8000000
set_option linter.unusedSimpArgs false
set_option linter.unnecessarySimpa false
set_option linter.unusedVariables false
end Go.V
namespace Go.V
open Go.Proofs
set_option maxRecDepth 100000
set_option maxHeartbeats 8000000
set_option linter.unusedSimpArgs false
set_option linter.unnecessarySimpa false
set_option linter.unusedVariables false
attribute [local irreducible] rc
def C8 : Contract := fun args hp K => match args, hp with
 | [], [] => K (.bool true) []
 | _, _ => False
theorem awake_txt : parseGo (linesL [110, 97, 109, 101, 32, 54, 50, 10, 108, 111, 97, 100, 32, 48, 10, 112, 117, 115, 104, 32, 49, 10, 97, 100, 100, 10, 115, 116, 111, 114, 101, 32, 48, 10]) 1 [] [] false = .fin [bsOf [98]] [(2, 0), (1, 1), (6, 0), (3, 0)] false := by
 rfl
theorem pOut_fin {K : SV → List SB → Prop} {ns cs late} : pOut K (.fin ns cs late) = if late = true ∨ formP ns cs = false then K (.tup [.agg [.nils, .nils], .int .i64 0, .int .i64 2]) [] else K (.tup [.agg [.sl true 16 .str ns, .sl true 16 EvT cs], .int .i64 0, .int .i64 0]) [] := rfl
theorem pOut_bad {K : SV → List SB → Prop} {i} : pOut K (.bad i) = K (.tup [.agg [.nils, .nils], .int .i64 i, .int .i64 2]) [] := rfl
theorem use9 {s : ByteArray} {K : SV → List SB → Prop} (h1 : 20000 < s.size → K (.tup [.agg [.nils, .nils], .int .i64 0, .int .i64 4]) []) (h2 : s.size ≤ 20000 → pOut K (parseGo (linesL s.data.toList) 1 [] [] false)) : C9 [.str s] [] K := ⟨h1, h2⟩
theorem s8 : Sound Tryd.prog 8 C8 := by
 refine sound_of_okF ok8 (.cons s9 (callable_of_okF ok9) .nil) ?_
 intro args hp K h
 unfold C8 at h
 split at h
 ·refine ⟨by simp, [], ?_⟩
  simp (maxSteps:=9^9) only [a8, r8, go_sem, Int.reduceLT, Int.reduceLE, Int.reduceEq, Int.reduceNe, Int.reduceAdd, Int.reduceSub, Int.reduceMul, Int.reduceToNat, Int.reduceNeg, Nat.reduceEqDiff, Nat.reduceLeDiff, Nat.reduceSub, Nat.reduceMul, Nat.reduceLT, Nat.reduceBEq, Nat.reduceAdd]
  refine use9 (fun h => absurd h (by decide)) (fun _ => ?_)
  have e := awake_txt
  have e2 : formP [bsOf [98]] [(2, 0), (1, 1), (6, 0), (3, 0)] = true := by rfl
  show pOut _ (parseGo (linesL [110, 97, 109, 101, 32, 54, 50, 10, 108, 111, 97, 100, 32, 48, 10, 112, 117, 115, 104, 32, 49, 10, 97, 100, 100, 10, 115, 116, 111, 114, 101, 32, 48, 10]) 1 [] [] false)
  rw [e, pOut_fin, if_neg (by rw [e2]; simp)]
  simp (maxSteps:=9^9) only [go_sem, Int.reduceLT, Int.reduceLE, Int.reduceEq, Int.reduceNe, Int.reduceAdd, Int.reduceSub, Int.reduceMul, Int.reduceToNat, Int.reduceNeg, Nat.reduceEqDiff, Nat.reduceLeDiff, Nat.reduceSub, Nat.reduceMul, Nat.reduceLT, Nat.reduceBEq, Nat.reduceAdd]
  intro _ m hm c hc
  refine swd hc (fun _ => ?_) (fun h0 => absurd hm h0)
  intro c1 hc1
  refine swd hc1 (fun _ => ?_) (fun h0 => absurd (by rfl) h0)
  intro _ m2 hm2 c2 hc2
  refine swd hc2 (fun _ => ?_) (fun h0 => absurd hm2 h0)
  refine nd_intro (by omega) ?_
  intro c3 hc3
  have e3 : c3 = true := by rw [hc3]; rfl
  rw [e3]
  exact h
 ·exact h.elim
end Go.V
