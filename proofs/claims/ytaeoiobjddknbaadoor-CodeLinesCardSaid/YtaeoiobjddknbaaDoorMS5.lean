/- What is printed is read back: lines, names, instructions. -/
import Derived.Test.YtaeoiobjddknbaaDoorMB5
import Derived.Test.YtaeoiobjddknbaaDoorMB10
namespace Go.V
open Go.Proofs
set_option maxRecDepth 100000
set_option maxHeartbeats 4000000
set_option linter.unusedSimpArgs false
set_option linter.unnecessarySimpa false
set_option linter.unusedVariables false
theorem linesL_one {l : List UInt8} (h : l.contains 10 = false) (r : List UInt8) : linesL (l ++ 10 :: r) = l :: linesL r := by
 have key : ∀ (l acc : List UInt8), l.contains 10 = false → linesGo (l ++ 10 :: r) acc = (acc ++ l) :: linesGo r [] := by
  intro l
  induction l with
  | nil => intro acc _; simp [linesGo]
  | cons c l ih =>
   intro acc hc
   have h1 : ¬ c = 10 := by rintro rfl; simp at hc
   have h2 : l.contains 10 = false := by
    simp only [List.contains_cons, Bool.or_eq_false_iff] at hc
    exact hc.2
   show (if c = 10 then acc :: linesGo (l ++ 10 :: r) [] else linesGo (l ++ 10 :: r) (acc ++ [c])) = _
   rw [if_neg h1, ih _ h2, List.append_assoc]
   rfl
 exact key l [] h
theorem digV_hexT : ∀ x, x < 16 → digV (hexT.getD x 0) = some x := by decide +kernel
theorem hexT_ne : ∀ x, x < 16 → ¬ hexT.getD x 0 = 10 := by decide +kernel
theorem unhex_hex : ∀ l : List UInt8, unhexL (hexL l) = some l
 | [] => rfl
 | c :: r => by
  have hc := UInt8.toNat_lt c
  show unhexL (hexT.getD (c.toNat / 16) 0 :: hexT.getD (c.toNat % 16) 0 :: hexL r) = _
  simp only [unhexL]
  rw [digV_hexT _ (by omega), digV_hexT _ (by omega), unhex_hex r]
  simp only [Option.map_some]
  have : 16 * (c.toNat / 16) + c.toNat % 16 = c.toNat := by omega
  rw [this]
  simp
theorem no_app {a b : List UInt8} (h1 : a.contains 10 = false) (h2 : b.contains 10 = false) : (a ++ b).contains 10 = false := by
 simp only [List.contains_eq_mem, decide_eq_false_iff_not, List.mem_append, not_or] at *
 exact ⟨h1, h2⟩
theorem hexL_no : ∀ l : List UInt8, (hexL l).contains 10 = false
 | [] => rfl
 | c :: r => by
  have hc := UInt8.toNat_lt c
  refine no_app (a := hexC c) (b := hexL r) ?_ (hexL_no r)
  have h1 := hexT_ne (c.toNat / 16) (by omega)
  have h2 := hexT_ne (c.toNat % 16) (by omega)
  simp only [hexC, List.contains_eq_mem, decide_eq_false_iff_not, List.mem_cons, List.not_mem_nil, or_false, not_or]
  exact ⟨fun h => h1 h.symm, fun h => h2 h.symm⟩
theorem dec_no (k : Nat) : ∀ u : Nat, u < k → (Lib.decDigits u).contains 10 = false := by
 induction k with
 | zero => intro u h; omega
 | succ k ih =>
  intro u h
  have one : ∀ d, d < 10 → [UInt8.ofNat (48 + d)].contains 10 = false := by decide +kernel
  by_cases hu : u < 10
  ·rw [dec_small hu]
   exact one u hu
  ·rw [dec_big hu]
   exact no_app (ih _ (by omega)) (one _ (by omega))
theorem itoa_no (n : Int) : (Lib.itoa n).contains 10 = false := by
 unfold Lib.itoa
 split
 ·exact no_app (a := [45]) rfl (dec_no (n.natAbs + 1) _ (by omega))
 ·exact dec_no (n.toNat + 1) _ (by omega)
theorem word_no10 : ∀ j, j < 24 → (wordL j).contains 10 = false := by decide +kernel
theorem argL_no (x : EvT.den) : (argL x).contains 10 = false := by
 unfold argL
 split
 ·rfl
 ·exact no_app (a := [32]) rfl (itoa_no _)
theorem line_name {n : ByteArray} (h : keyOk n = true) : lineF (nameL ++ hexL n.data.toList) = some (.inl n) := by
 unfold lineF
 have h1 : nameL.isPrefixOf (nameL ++ hexL n.data.toList) = true := by
  rw [List.isPrefixOf_iff_prefix]
  exact ⟨_, rfl⟩
 have h2 : (nameL ++ hexL n.data.toList).drop 5 = hexL n.data.toList := rfl
 rw [if_pos h1, h2, unhex_hex]
 simp only [Option.bind_some]
 have h3 : bsOf n.data.toList = n := rfl
 rw [h3, if_pos h]
theorem numI_itoa {n : Int} (h : inR .i64 n) : numI (Lib.itoa n) = some n := by
 have h1 : -9223372036854775808 ≤ n ∧ n ≤ 9223372036854775807 := h
 unfold Lib.itoa
 split
 ·rename_i hn
  unfold numI
  rw [if_pos (show (45 :: Lib.decDigits n.natAbs).head? = some 45 from rfl)]
  show (natF (Lib.decDigits n.natAbs)).bind _ = _
  rw [natF_dec (by omega)]
  simp only [Option.bind_some]
  rw [if_neg (by omega)]
  congr 1
  omega
 ·rename_i hn
  have h45 : ¬ (Lib.decDigits n.toNat).head? = some 45 := by
   rcases Nat.eq_zero_or_pos n.toNat with h0 | h0
   ·rw [h0, dec_zero]; decide
   ·obtain ⟨c, r, e, _, h4⟩ := dec_head n.toNat h0
    rw [e]
    intro h5
    exact h4 (Option.some.inj h5)
  unfold numI
  rw [if_neg h45, natF_dec (by omega)]
  simp only [Option.bind_some]
  rw [if_neg (by omega)]
  congr 1
  omega
theorem word_not_name : ∀ j, j < 24 → 2 ≤ (wordL j).length ∧ ¬ (wordL j).take 2 = [110, 97] := by decide +kernel
theorem ins_ok {n c : Nat} {a b : Int} (h : insOk n c (a, b) = true) : ((0 : Int) ≤ a ∧ a.toNat < 24) ∧ (opK a = 0 → b = 0) := by
 simp only [insOk, Bool.and_eq_true, Bool.or_eq_true, decide_eq_true_eq] at h
 obtain ⟨h1, h2⟩ := h
 have h3 : (0 : Int) ≤ a ∧ a < (24 : Int) := h1
 refine ⟨⟨h3.1, by omega⟩, fun h0 => ?_⟩
 have h0' : opK (a, b).1 = 0 := h0
 rw [h0'] at h2
 rcases h2 with h2 | h2
 ·exact absurd h2 (by decide)
 ·have h4 : (0 : Int) ≤ b ∧ b < belowI 0 n c := h2
  have h5 : belowI 0 n c = 1 := rfl
  omega
theorem instr_line {n c : Nat} {a b : Int} (h : insOk n c (a, b) = true) (hb : inR .i64 b) : lineF (wordL a.toNat ++ argL (a, b)) = some (.inr (a, b)) := by
 have h1 := ins_ok h
 obtain ⟨⟨ha1, ha2⟩, hk⟩ := h1
 have hw := word_not_name a.toNat ha2
 have hp : ¬ nameL.isPrefixOf (wordL a.toNat ++ argL (a, b)) = true := by
  intro hp
  rw [List.isPrefixOf_iff_prefix] at hp
  obtain ⟨r, hr⟩ := hp
  have := congrArg (List.take 2) hr
  rw [List.take_append_of_le_length (by simp [nameL]), List.take_append_of_le_length hw.1] at this
  exact hw.2 this.symm
 unfold lineF
 rw [if_neg hp]
 have ea : ((a.toNat : Nat) : Int) = a := by omega
 have hi : instrF (wordL a.toNat ++ argL (a, b)) = some (a, b) := by
  unfold argL
  split
  ·rename_i h0
   have h0' : opK a.toNat = 0 := by rw [ea]; exact h0
   rw [List.append_nil, opM_instr ha2 (by unfold opM; rw [if_pos h0']; simp), if_pos h0', ea]
   have := hk h0
   rw [this]
  ·rename_i h0
   have h0' : ¬ opK a.toNat = 0 := by rw [ea]; exact h0
   have hm : opM (wordL a.toNat ++ 32 :: Lib.itoa b) a.toNat = true := by
    unfold opM
    rw [if_neg h0', List.isPrefixOf_iff_prefix]
    exact ⟨Lib.itoa b, by rw [List.append_assoc]; rfl⟩
   rw [opM_instr ha2 hm, if_neg h0', ea]
   have hd : (wordL a.toNat ++ 32 :: Lib.itoa b).drop ((wordL a.toNat).length + 1) = Lib.itoa b := by
    rw [← List.drop_drop, List.drop_left]
    rfl
   rw [hd, numI_itoa hb]
   rfl
 rw [hi]
 rfl
theorem parse_names : ∀ (ns : List ByteArray) (r : List UInt8) (i : Int) (ns0 : List ByteArray), ns.all keyOk = true → parseGo (linesL (prN ns ++ r)) i ns0 [] false = parseGo (linesL r) (i + ns.length) (ns0 ++ ns) [] false
 | [], r, i, ns0, _ => by simp [prN]
 | n :: ns, r, i, ns0, h => by
  simp only [List.all_cons, Bool.and_eq_true] at h
  have e : prN (n :: ns) ++ r = (nameL ++ hexL n.data.toList) ++ 10 :: (prN ns ++ r) := by
   show (nmL n ++ prN ns) ++ r = _
   unfold nmL
   simp only [List.append_assoc, List.cons_append, List.nil_append]
  rw [e, linesL_one (no_app rfl (hexL_no _))]
  simp only [parseGo, line_name h.1]
  have e2 : (false || decide (0 < ([] : List EvT.den).length)) = false := rfl
  rw [e2, parse_names ns r (i + 1) (ns0 ++ [n]) h.2]
  congr 1
  ·simp only [List.length_cons]; omega
  ·simp
theorem parse_code {m c : Nat} : ∀ (cs : List EvT.den) (r : List UInt8) (i : Int) (ns0 : List ByteArray) (cs0 : List EvT.den) (late : Bool), cs.all (insOk m c) = true → (∀ x ∈ cs, inR .i64 x.2) → parseGo (linesL (prC cs ++ r)) i ns0 cs0 late = parseGo (linesL r) (i + cs.length) ns0 (cs0 ++ cs) late
 | [], r, i, ns0, cs0, late, _, _ => by simp [prC]
 | (a, b) :: cs, r, i, ns0, cs0, late, h, hr => by
  rw [List.all_cons, Bool.and_eq_true] at h
  have e : prC ((a, b) :: cs) ++ r = (wordL a.toNat ++ argL (a, b)) ++ 10 :: (prC cs ++ r) := by
   show (lnL (a, b) ++ prC cs) ++ r = _
   unfold lnL
   simp only [List.append_assoc, List.cons_append, List.nil_append]
  have ha := ins_ok h.1
  rw [e, linesL_one (no_app (word_no10 _ ha.1.2) (argL_no _))]
  simp only [parseGo, instr_line h.1 (hr _ (List.mem_cons_self ..))]
  rw [parse_code cs r (i + 1) ns0 (cs0 ++ [(a, b)]) late h.2 (fun x hx => hr x (List.mem_cons_of_mem _ hx))]
  congr 1
  ·simp only [List.length_cons]; omega
  ·simp
theorem parse_print {ns : List ByteArray} {cs : List EvT.den} (h : formP ns cs = true) (hr : ∀ x ∈ cs, inR .i64 x.2) (r : List UInt8) : parseGo (linesL (printL ns cs ++ r)) 1 [] [] false = parseGo (linesL r) (1 + ns.length + cs.length) ns cs false := by
 obtain ⟨_, h2, h3⟩ := formP_iff.1 h
 unfold printL
 rw [List.append_assoc, parse_names ns _ 1 [] h2, parse_code cs r _ _ [] false h3 hr]
 simp
end Go.V
namespace Go.V
open Go.Proofs
set_option maxRecDepth 100000
set_option maxHeartbeats 8000000
set_option linter.unusedSimpArgs false
set_option linter.unnecessarySimpa false
set_option linter.unusedVariables false
theorem print_len {ns : List ByteArray} {cs : List EvT.den} (h : formP ns cs = true) (hr : ∀ x ∈ cs, inR .i64 x.2) : (printL ns cs).length ≤ 9000 := by
 obtain ⟨⟨hn1, hn2⟩, hk, hi2⟩ := formP_iff.1 h
 have h1 := prN_len hk
 have h2 := prC_len hi2 hr
 unfold printL
 rw [List.length_append]
 omega
theorem contains_next {l : List UInt8} {i : Nat} (h : i < l.length) (hc : (l.take i).contains 10 = false) (hn : ¬ l[i] = 10) : (l.take (i + 1)).contains 10 = false := by
 rw [List.take_succ_eq_append_getElem h]
 refine no_app hc ?_
 simp only [List.contains_eq_mem, decide_eq_false_iff_not, List.mem_singleton]
 exact fun e => hn e.symm
def C4a : Contract := fun args hp K => match args, hp with
 | [.agg [.sl true 16 .str n1, .sl true 16 (.pair (.int .i64) (.int .i64)) c1], .str line, .str behind], [] => (∀ x ∈ (c1 : List EvT.den), inR .i64 x.2) ∧ K (.bool true) []
 | _, _ => False
def L4 (n1 : List ByteArray) (c1 : List EvT.den) (line behind s : ByteArray) (e : Int) : LoopAnn := { G := Nat, I := fun i => ⟨[(1, .str line), (2, .str behind), (3, .ptr 0 0), (7, .str s), (8, .int .i64 e), (41, .int .i64 line.size), (42, .int .i64 i)], [.struct [.sl true 16 .str n1, .sl true 16 EvT c1]]⟩, R := fun _ i => i ≤ line.size ∧ (line.data.toList.take i).contains 10 = false, μ := fun i => line.size - i }
theorem L4_I {n1 c1 line behind s e} (i : Nat) : (L4 n1 c1 line behind s e).I i = ⟨[(1, .str line), (2, .str behind), (3, .ptr 0 0), (7, .str s), (8, .int .i64 e), (41, .int .i64 line.size), (42, .int .i64 i)], [.struct [.sl true 16 .str n1, .sl true 16 EvT c1]]⟩ := rfl
attribute [local irreducible] rc
theorem s4a : Sound Tryd.prog 4 C4a := by
  refine sound_of_okF ok4 (.cons s8 (callable_of_okF ok8) (.cons s13 (callable_of_okF ok13) (.cons s15 (callable_of_okF ok15) (.cons s14 (callable_of_okF ok14) (.cons s9 (callable_of_okF ok9) .nil))))) ?_
  intro args hp K h
  unfold C4a at h
  split at h
  · rename_i n1 c1 line behind
    obtain ⟨hr, h⟩ := h
    have hmx := maxLen_val
    have hll : line.data.toList.length = line.size := Array.length_toList
    cases fp : formP n1 c1 with
    | false =>
      refine ⟨by simp, [(1, L4 n1 c1 line behind ByteArray.empty 1)], ?_⟩
      simp (maxSteps:=9^9) only [a4, r4, C8, go_sem, Int.reduceLT, Int.reduceLE, Int.reduceEq, Int.reduceNe, Int.reduceAdd, Int.reduceSub, Int.reduceMul, Int.reduceToNat, Int.reduceNeg, Nat.reduceEqDiff, Nat.reduceLeDiff, Nat.reduceSub, Nat.reduceMul, Nat.reduceLT, Nat.reduceBEq, Nat.reduceAdd]
      refine use13 ?_
      cases f1 : fewP n1 c1 with
      | false =>
        simp (maxSteps:=9^9) only [C8, go_sem, Int.reduceLT, Int.reduceLE, Int.reduceEq, Int.reduceNe, Int.reduceAdd, Int.reduceSub, Int.reduceMul, Int.reduceToNat, Int.reduceNeg, Nat.reduceEqDiff, Nat.reduceLeDiff, Nat.reduceSub, Nat.reduceMul, Nat.reduceLT, Nat.reduceBEq, Nat.reduceAdd]
        exact h
      | true =>
        simp (maxSteps:=9^9) only [C8, go_sem, Int.reduceLT, Int.reduceLE, Int.reduceEq, Int.reduceNe, Int.reduceAdd, Int.reduceSub, Int.reduceMul, Int.reduceToNat, Int.reduceNeg, Nat.reduceEqDiff, Nat.reduceLeDiff, Nat.reduceSub, Nat.reduceMul, Nat.reduceLT, Nat.reduceBEq, Nat.reduceAdd]
        obtain ⟨⟨l1, z1⟩, l2⟩ := fewP_iff.1 f1
        intro _ m1 hm1 c hc
        refine swd hc (fun _ => h) (fun hq1 => ?_)
        intro _ m2 hm2 c hc
        refine swd hc (fun _ => h) (fun hq2 => ?_)
        refine use15 (by omega) (by omega) ?_
        simp (maxSteps:=9^9) only [go_sem, Int.reduceLT, Int.reduceLE, Int.reduceEq, Int.reduceNe, Int.reduceAdd, Int.reduceSub, Int.reduceMul, Int.reduceToNat, Int.reduceNeg, Nat.reduceEqDiff, Nat.reduceLeDiff, Nat.reduceSub, Nat.reduceMul, Nat.reduceLT, Nat.reduceBEq, Nat.reduceAdd]
        refine use14 (fun _ => ?_) (fun h' => absurd h' (by rw [fp]; simp))
        simp (maxSteps:=9^9) only [go_sem, Int.reduceLT, Int.reduceLE, Int.reduceEq, Int.reduceNe, Int.reduceAdd, Int.reduceSub, Int.reduceMul, Int.reduceToNat, Int.reduceNeg, Nat.reduceEqDiff, Nat.reduceLeDiff, Nat.reduceSub, Nat.reduceMul, Nat.reduceLT, Nat.reduceBEq, Nat.reduceAdd]
        rintro _ m3 hm3
        rw [hm3]
        refine loop_intro (A := L4 n1 c1 line behind ByteArray.empty 1) (0 : Nat) ?_ ⟨Nat.zero_le _, rfl⟩ ?_
        · simp (maxSteps:=9^9) only [L4_I, go_sem, Int.reduceLT, Int.reduceLE, Int.reduceEq, Int.reduceNe, Int.reduceAdd, Int.reduceSub, Int.reduceMul, Int.reduceToNat, Int.reduceNeg, Nat.reduceEqDiff, Nat.reduceLeDiff, Nat.reduceSub, Nat.reduceMul, Nat.reduceLT, Nat.reduceBEq, Nat.reduceAdd]
          rfl
        · rintro (i : Nat) (⟨g1, g2⟩ : i ≤ line.size ∧ (line.data.toList.take i).contains 10 = false)
          simp (maxSteps:=9^9) only [L4_I, go_sem, Int.reduceLT, Int.reduceLE, Int.reduceEq, Int.reduceNe, Int.reduceAdd, Int.reduceSub, Int.reduceMul, Int.reduceToNat, Int.reduceNeg, Nat.reduceEqDiff, Nat.reduceLeDiff, Nat.reduceSub, Nat.reduceMul, Nat.reduceLT, Nat.reduceBEq, Nat.reduceAdd]
          intro c hc
          refine swd hc (fun h0 => ?_) (fun h0 => ?_)
          · have h0 : i < line.size := by omega
            refine nd_intro (by omega) ?_
            rintro m4 hm4 c hc
            refine swd hc (fun _ => h) (fun hne => ?_)
            rintro _ _ m5 hm5
            rw [w64 (by omega)] at hm5
            rw [hm5, show (i : Int) + 1 = ((i + 1 : Nat) : Int) by omega]
            refine lpE_intro (A := L4 n1 c1 line behind ByteArray.empty 1) (i + 1 : Nat) rfl ⟨h0, contains_next (by omega) g2 ?_⟩ (by show line.size - (i + 1) < line.size - i; omega)
            intro e
            have e0 : line.data.toList.getD i 0 = line.data.toList[i]'(by omega) := getD_eq (by omega)
            apply hne
            rw [hm4, e0, e]
            try rfl
          · have hno : line.data.toList.contains 10 = false := by
              rw [List.take_of_length_le (by omega)] at g2
              exact g2
            refine ⟨by show _ + 1 ≤ _; omega, ?_⟩
            intro u hu
            have huL : u.data.toList = line.data.toList ++ 10 :: [] := by rw [hu, bs_app]; try rfl
            have huz : u.size = line.size + 1 := by rw [hu, ByteArray.size_append]; try rfl
            refine use9 (fun h' => absurd h' (by omega)) (fun _ => ?_)
            rw [huL, linesL_one hno]
            have e1 : linesL ([] : List UInt8) = [] := rfl
            rw [e1]
            simp only [parseGo]
            cases hl : lineF line.data.toList with
            | none =>
              simp only
              rw [pOut_bad]
              simp (maxSteps:=9^9) only [go_sem, Int.reduceLT, Int.reduceLE, Int.reduceEq, Int.reduceNe, Int.reduceAdd, Int.reduceSub, Int.reduceMul, Int.reduceToNat, Int.reduceNeg, Nat.reduceEqDiff, Nat.reduceLeDiff, Nat.reduceSub, Nat.reduceMul, Nat.reduceLT, Nat.reduceBEq, Nat.reduceAdd]
              exact h
            | some v =>
              cases v with
              | inl n =>
                simp only
                rw [pOut_fin]
                split
                · simp (maxSteps:=9^9) only [go_sem, Int.reduceLT, Int.reduceLE, Int.reduceEq, Int.reduceNe, Int.reduceAdd, Int.reduceSub, Int.reduceMul, Int.reduceToNat, Int.reduceNeg, Nat.reduceEqDiff, Nat.reduceLeDiff, Nat.reduceSub, Nat.reduceMul, Nat.reduceLT, Nat.reduceBEq, Nat.reduceAdd]
                  exact h
                · simp (maxSteps:=9^9) only [go_sem, Int.reduceLT, Int.reduceLE, Int.reduceEq, Int.reduceNe, Int.reduceAdd, Int.reduceSub, Int.reduceMul, Int.reduceToNat, Int.reduceNeg, Nat.reduceEqDiff, Nat.reduceLeDiff, Nat.reduceSub, Nat.reduceMul, Nat.reduceLT, Nat.reduceBEq, Nat.reduceAdd]
                  exact h
              | inr x =>
                simp only
                rw [pOut_fin]
                split
                · simp (maxSteps:=9^9) only [go_sem, Int.reduceLT, Int.reduceLE, Int.reduceEq, Int.reduceNe, Int.reduceAdd, Int.reduceSub, Int.reduceMul, Int.reduceToNat, Int.reduceNeg, Nat.reduceEqDiff, Nat.reduceLeDiff, Nat.reduceSub, Nat.reduceMul, Nat.reduceLT, Nat.reduceBEq, Nat.reduceAdd]
                  exact h
                · simp (maxSteps:=9^9) only [go_sem, Int.reduceLT, Int.reduceLE, Int.reduceEq, Int.reduceNe, Int.reduceAdd, Int.reduceSub, Int.reduceMul, Int.reduceToNat, Int.reduceNeg, Nat.reduceEqDiff, Nat.reduceLeDiff, Nat.reduceSub, Nat.reduceMul, Nat.reduceLT, Nat.reduceBEq, Nat.reduceAdd]
                  exact h
    | true =>
      have hpl := print_len fp hr
      refine ⟨by simp, [(1, L4 n1 c1 line behind (bsOf (printL n1 c1)) 0)], ?_⟩
      simp (maxSteps:=9^9) only [a4, r4, C8, go_sem, Int.reduceLT, Int.reduceLE, Int.reduceEq, Int.reduceNe, Int.reduceAdd, Int.reduceSub, Int.reduceMul, Int.reduceToNat, Int.reduceNeg, Nat.reduceEqDiff, Nat.reduceLeDiff, Nat.reduceSub, Nat.reduceMul, Nat.reduceLT, Nat.reduceBEq, Nat.reduceAdd]
      refine use13 ?_
      cases f1 : fewP n1 c1 with
      | false =>
        simp (maxSteps:=9^9) only [C8, go_sem, Int.reduceLT, Int.reduceLE, Int.reduceEq, Int.reduceNe, Int.reduceAdd, Int.reduceSub, Int.reduceMul, Int.reduceToNat, Int.reduceNeg, Nat.reduceEqDiff, Nat.reduceLeDiff, Nat.reduceSub, Nat.reduceMul, Nat.reduceLT, Nat.reduceBEq, Nat.reduceAdd]
        exact h
      | true =>
        simp (maxSteps:=9^9) only [C8, go_sem, Int.reduceLT, Int.reduceLE, Int.reduceEq, Int.reduceNe, Int.reduceAdd, Int.reduceSub, Int.reduceMul, Int.reduceToNat, Int.reduceNeg, Nat.reduceEqDiff, Nat.reduceLeDiff, Nat.reduceSub, Nat.reduceMul, Nat.reduceLT, Nat.reduceBEq, Nat.reduceAdd]
        obtain ⟨⟨l1, z1⟩, l2⟩ := fewP_iff.1 f1
        intro _ m1 hm1 c hc
        refine swd hc (fun _ => h) (fun hq1 => ?_)
        intro _ m2 hm2 c hc
        refine swd hc (fun _ => h) (fun hq2 => ?_)
        refine use15 (by omega) (by omega) ?_
        simp (maxSteps:=9^9) only [go_sem, Int.reduceLT, Int.reduceLE, Int.reduceEq, Int.reduceNe, Int.reduceAdd, Int.reduceSub, Int.reduceMul, Int.reduceToNat, Int.reduceNeg, Nat.reduceEqDiff, Nat.reduceLeDiff, Nat.reduceSub, Nat.reduceMul, Nat.reduceLT, Nat.reduceBEq, Nat.reduceAdd]
        refine use14 (fun h' => absurd h' (by rw [fp]; simp)) (fun _ => ?_)
        simp (maxSteps:=9^9) only [go_sem, Int.reduceLT, Int.reduceLE, Int.reduceEq, Int.reduceNe, Int.reduceAdd, Int.reduceSub, Int.reduceMul, Int.reduceToNat, Int.reduceNeg, Nat.reduceEqDiff, Nat.reduceLeDiff, Nat.reduceSub, Nat.reduceMul, Nat.reduceLT, Nat.reduceBEq, Nat.reduceAdd]
        rintro _ m3 hm3
        rw [hm3]
        refine loop_intro (A := L4 n1 c1 line behind (bsOf (printL n1 c1)) 0) (0 : Nat) ?_ ⟨Nat.zero_le _, rfl⟩ ?_
        · simp (maxSteps:=9^9) only [L4_I, go_sem, Int.reduceLT, Int.reduceLE, Int.reduceEq, Int.reduceNe, Int.reduceAdd, Int.reduceSub, Int.reduceMul, Int.reduceToNat, Int.reduceNeg, Nat.reduceEqDiff, Nat.reduceLeDiff, Nat.reduceSub, Nat.reduceMul, Nat.reduceLT, Nat.reduceBEq, Nat.reduceAdd]
          rfl
        · rintro (i : Nat) (⟨g1, g2⟩ : i ≤ line.size ∧ (line.data.toList.take i).contains 10 = false)
          simp (maxSteps:=9^9) only [L4_I, go_sem, Int.reduceLT, Int.reduceLE, Int.reduceEq, Int.reduceNe, Int.reduceAdd, Int.reduceSub, Int.reduceMul, Int.reduceToNat, Int.reduceNeg, Nat.reduceEqDiff, Nat.reduceLeDiff, Nat.reduceSub, Nat.reduceMul, Nat.reduceLT, Nat.reduceBEq, Nat.reduceAdd]
          intro c hc
          refine swd hc (fun h0 => ?_) (fun h0 => ?_)
          · have h0 : i < line.size := by omega
            refine nd_intro (by omega) ?_
            rintro m4 hm4 c hc
            refine swd hc (fun _ => h) (fun hne => ?_)
            rintro _ _ m5 hm5
            rw [w64 (by omega)] at hm5
            rw [hm5, show (i : Int) + 1 = ((i + 1 : Nat) : Int) by omega]
            refine lpE_intro (A := L4 n1 c1 line behind (bsOf (printL n1 c1)) 0) (i + 1 : Nat) rfl ⟨h0, contains_next (by omega) g2 ?_⟩ (by show line.size - (i + 1) < line.size - i; omega)
            intro e
            have e0 : line.data.toList.getD i 0 = line.data.toList[i]'(by omega) := getD_eq (by omega)
            apply hne
            rw [hm4, e0, e]
            try rfl
          · have hno : line.data.toList.contains 10 = false := by
              rw [List.take_of_length_le (by omega)] at g2
              exact g2
            refine ⟨by show _ + 1 ≤ _; omega, ?_⟩
            intro u hu
            have huL : u.data.toList = line.data.toList ++ 10 :: [] := by rw [hu, bs_app]; try rfl
            have huz : u.size = line.size + 1 := by rw [hu, ByteArray.size_append]; try rfl
            refine use9 (fun h' => absurd h' (by omega)) (fun _ => ?_)
            rw [huL, linesL_one hno]
            have e1 : linesL ([] : List UInt8) = [] := rfl
            rw [e1]
            simp only [parseGo]
            cases hl : lineF line.data.toList with
            | none =>
              simp only
              rw [pOut_bad]
              simp (maxSteps:=9^9) only [go_sem, Int.reduceLT, Int.reduceLE, Int.reduceEq, Int.reduceNe, Int.reduceAdd, Int.reduceSub, Int.reduceMul, Int.reduceToNat, Int.reduceNeg, Nat.reduceEqDiff, Nat.reduceLeDiff, Nat.reduceSub, Nat.reduceMul, Nat.reduceLT, Nat.reduceBEq, Nat.reduceAdd]
              have hps := bsOf_size (printL n1 c1)
              refine ⟨by omega, ?_⟩
              intro v1 hv1
              have hz1 : v1.size = (printL n1 c1).length + line.size := by rw [hv1, ByteArray.size_append, hps]
              refine ⟨by show _ + 1 ≤ _; omega, ?_⟩
              intro v2 hv2
              have hz2 : v2.size = v1.size + 1 := by rw [hv2, ByteArray.size_append]; rfl
              refine ⟨by omega, ?_⟩
              intro v3 hv3
              have hz3 : v3.size = v2.size + behind.size := by rw [hv3, ByteArray.size_append]
              have hL : v3.data.toList = printL n1 c1 ++ (line.data.toList ++ 10 :: behind.data.toList) := by
                rw [hv3, hv2, hv1, bs_app, bs_app, bs_app, bL]
                simp only [List.append_assoc]
                rfl
              refine use9 (fun h' => absurd h' (by omega)) (fun _ => ?_)
              rw [hL, parse_print fp hr, linesL_one hno]
              simp only [parseGo, hl]
              rw [pOut_bad]
              simp (maxSteps:=9^9) only [go_sem, Int.reduceLT, Int.reduceLE, Int.reduceEq, Int.reduceNe, Int.reduceAdd, Int.reduceSub, Int.reduceMul, Int.reduceToNat, Int.reduceNeg, Nat.reduceEqDiff, Nat.reduceLeDiff, Nat.reduceSub, Nat.reduceMul, Nat.reduceLT, Nat.reduceBEq, Nat.reduceAdd]
              rintro _ _ q1 hx1 _ _ q2 hx2 _ _ q3 hx3 _ _ q4 hx4 c hc
              rw [w64 (by omega)] at hx3
              rw [w64 (by omega)] at hx4
              refine swd hc (fun _ => h) (fun hq => absurd ?_ hq)
              omega
            | some v =>
              cases v with
              | inl n =>
                simp only
                rw [pOut_fin]
                split
                · simp (maxSteps:=9^9) only [go_sem, Int.reduceLT, Int.reduceLE, Int.reduceEq, Int.reduceNe, Int.reduceAdd, Int.reduceSub, Int.reduceMul, Int.reduceToNat, Int.reduceNeg, Nat.reduceEqDiff, Nat.reduceLeDiff, Nat.reduceSub, Nat.reduceMul, Nat.reduceLT, Nat.reduceBEq, Nat.reduceAdd]
                  exact h
                · simp (maxSteps:=9^9) only [go_sem, Int.reduceLT, Int.reduceLE, Int.reduceEq, Int.reduceNe, Int.reduceAdd, Int.reduceSub, Int.reduceMul, Int.reduceToNat, Int.reduceNeg, Nat.reduceEqDiff, Nat.reduceLeDiff, Nat.reduceSub, Nat.reduceMul, Nat.reduceLT, Nat.reduceBEq, Nat.reduceAdd]
                  exact h
              | inr x =>
                simp only
                rw [pOut_fin]
                split
                · simp (maxSteps:=9^9) only [go_sem, Int.reduceLT, Int.reduceLE, Int.reduceEq, Int.reduceNe, Int.reduceAdd, Int.reduceSub, Int.reduceMul, Int.reduceToNat, Int.reduceNeg, Nat.reduceEqDiff, Nat.reduceLeDiff, Nat.reduceSub, Nat.reduceMul, Nat.reduceLT, Nat.reduceBEq, Nat.reduceAdd]
                  exact h
                · simp (maxSteps:=9^9) only [go_sem, Int.reduceLT, Int.reduceLE, Int.reduceEq, Int.reduceNe, Int.reduceAdd, Int.reduceSub, Int.reduceMul, Int.reduceToNat, Int.reduceNeg, Nat.reduceEqDiff, Nat.reduceLeDiff, Nat.reduceSub, Nat.reduceMul, Nat.reduceLT, Nat.reduceBEq, Nat.reduceAdd]
                  exact h
  · exact h.elim
def C4 : Contract := fun args hp K => match args, hp with
 | [.agg [.sl true 16 .str n1, .sl true 16 (.pair (.int .i64) (.int .i64)) c1], .str line, .str behind], [] => K (.bool true) []
 | _, _ => False
theorem s4 : Sound Tryd.prog 4 C4 := by
 intro args hp K h E vs hs hg hd
 unfold C4 at h
 split at h
 ·rename_i ns cs line behind
  have hr : ∀ x ∈ cs, inR .i64 x.2 := by
   simp only [denL] at hd
   obtain ⟨v, r, rfl, h1, _⟩ := hd
   exact agg2_in rfl h1
  exact s4a [.agg [.sl true 16 .str ns, .sl true 16 (.pair (.int .i64) (.int .i64)) cs], .str line, .str behind] [] K ⟨hr, h⟩ E vs hs hg hd
 ·exact h.elim
end Go.V
