/- CodeLines: the first wrong line is told by its number; the card -/
import Derived.Test.YtaeoiobjddknbaaDoorC1
import Derived.Test.YtaeoiobjddknbaaDoorMS5
import Derived.Test.YtaeoiobjddknbaaDoorVx
import Derived.Test.YtaeoiobjddknbaaDoorTie
import Derived.Test.YtaeoiobjddknbaaDoorCards
import Derived.Deep.DeepWitnessRowRef
import Derived.SevenTiedAt
namespace Go.Proofs.YtaeoiobjddknbaaDoor.lines
set_option linter.unusedSimpArgs false
set_option linter.unnecessarySimpa false
open Go.ChangeShapes Go.WideShapes Go.ChangeAt Go.RowKit Go.V
set_option linter.unusedVariables false
set_option maxRecDepth 100000
theorem own : ownKnob Tryd.prog.godebug = none := by kernel_rfl
theorem contract (H : Type) (enc : TypeId × Value → H) (W : World) (base : Nat) (args : Array Value) (ds gs : List (DataW H)) (before : List MemPlace)
  (hval : ∀ (j : Nat) t v, Tryd.f4.params[j]? = some t → args[j]? = some v → Value.okWide Tryd.prog W .any base t v)
  (hW : DataW.Whole enc Tryd.prog Tryd.f4.params.toList Rows.codeLinesSpec.vars false W args.toList ds gs before)
  (hl : laidMetH Tryd.prog Rows.codeLinesRow.laid W) (hsh : W.ShapedOpen Tryd.prog)
  (hw : (DataW.weightsEach Tryd.prog (Tryd.f4.params.toList ++ (OpenSpec.ofChange Rows.codeLinesSpec).bare.plain.varTypes Tryd.prog) (ds ++ gs)).all (· ≤ reachBytes) = true) :
  Calls Tryd.prog 4 args W fun e W' => ∃ v, e = .returned v ∧ Rows.codeLinesSpec.post enc Tryd.prog Tryd.f4 false true false false W args v W' := by
 have hW' := hW
 obtain ⟨p, q, hA0, hV, rfl, hfz, hnd⟩ := hW
 have hA : DataW.TrodAll enc Tryd.prog W 0 (fun _ => true) true Tryd.f4.params.toList args.toList ds p := hA0
 obtain ⟨rfl, rfl⟩ := trodVars_none hV
 rw [Tryd.params4] at hA hval hw
 obtain ⟨v0, vs0, d0, ds0, p0, q0, hargs, rfl, rfl, h0, r0⟩ := trodAll_cons hA
 obtain ⟨v1, vs1, d1, ds1, p1, q1, rfl, rfl, rfl, h1, r1⟩ := trodAll_cons r0
 obtain ⟨v2, vs2, d2, ds2, p2, q2, rfl, rfl, rfl, h2, r2⟩ := trodAll_cons r1
 obtain ⟨rfl, rfl, rfl⟩ := trodAll_nil r2
 have hargs' : args = #[v0, v1, v2] := by cases args; simp_all
 subst hargs'
 clear hA0 hA
 simp only [List.cons_append, List.nil_append, DataW.weightsEach, List.append_nil, List.all_append, Bool.and_eq_true] at hw
 obtain ⟨hw0, hw1, hw2, _⟩ := hw
 obtain ⟨⟨x0, hx0, hb0⟩, hk0⟩ := openP (T := 32) (t := .pair (.sl 16 .str) (.sl 16 EvT)) (va := true) (n := 9) (by decide +kernel) (by decide +kernel) (hval 0 _ v0 rfl rfl) h0 (fun k hk => by simpa using List.all_eq_true.1 hw0 k hk)
 obtain ⟨⟨x1, hx1, hb1⟩, hk1⟩ := openP (T := 9) (t := .str) (va := false) (n := 9) (by decide +kernel) (by decide +kernel) (hval 1 _ v1 rfl rfl) h1 (fun k hk => by simpa using List.all_eq_true.1 hw1 k hk)
 obtain ⟨⟨x2, hx2, hb2⟩, hk2⟩ := openP (T := 9) (t := .str) (va := false) (n := 9) (by decide +kernel) (by decide +kernel) (hval 2 _ v2 rfl rfl) h2 (fun k hk => by simpa using List.all_eq_true.1 hw2 k hk)
 refine (calls_true s4 (gl_of_laid hl hsh) (svs := [.agg [.sl true 16 .str x0.1, .sl true 16 EvT x0.2], .str x1, .str x2]) ?_ ?_).mono fun e W' ⟨he, hk, hos, hout⟩ => ⟨_, he, ?_⟩
 ·simp only [denL]
  exact ⟨v0, [v1, v2], rfl, hx0, ⟨v1, [v2], rfl, hx1, ⟨v2, [], rfl, hx2, rfl⟩⟩⟩
 ·rfl
 ·refine post_law hW' rfl (rt := 4) (by kernel_rfl) (by kernel_rfl) rfl hk hos hout (fun sp hp => ?_)
  rw [Tryd.params4]
  have := trodAll_cons_mk (hk0 W' sp hk (fun p hp' => hp p (by simp [hp']))) (trodAll_cons_mk (hk1 W' sp hk (fun p hp' => hp p (by simp [hp']))) (trodAll_cons_mk (hk2 W' sp hk (fun p hp' => hp p (by simp [hp']))) (trodAll_mk0)))
  simpa only [List.append_nil, List.append_assoc] using this
theorem reads (os : Os) {H : Type} (enc : TypeId × Value → H) : ∃ places, DataW.whole enc Tryd.prog ((World.doorLaid Tryd.prog 62 os).forCall (fun _ _ => 0) ⟨#[], #[.agg #[.slice none 0 0, .slice none 0 0], .string ⟨#[]⟩, .string ⟨#[]⟩], []⟩).memory Tryd.f4.params.toList Rows.codeLinesSpec.vars false (#[.agg #[.slice none 0 0, .slice none 0 0], .string ⟨#[]⟩, .string ⟨#[]⟩] : Array Value).toList 8 = some ([.agg [.nil, .nil], .lit (.string []), .lit (.string [])], [], places) :=
 ⟨[], by kernel_rfl⟩
theorem lifted (os : Os) (started : os.Started) (H : Type) (enc : TypeId × Value → H) (F : Stop.Interp) :
  ReturnsInHanded {} Tryd.checked os 4 .any ((OpenSpec.ofChange Rows.codeLinesSpec).preRow enc Tryd.prog Tryd.f4 Rows.codeLinesRow.domain false Rows.codeLinesRow.laid) (((OpenSpec.ofChange Rows.codeLinesSpec).at F).post enc Tryd.prog Tryd.f4 false true false false) := by
 obtain ⟨places, hx⟩ := reads os enc
 refine returnsInHanded_of_row (C := Tryd.checked) (s := OpenSpec.ofChange Rows.codeLinesSpec) own started (by kernel_rfl) Tryd.func4
  (witness_row_atRef (enc := enc) (C := Tryd.checked) false (World.doorLaid Tryd.prog 62 os) #[.agg #[.slice none 0 0, .slice none 0 0], .string ⟨#[]⟩, .string ⟨#[]⟩] rfl (by kernel_rfl) (by kernel_rfl) (by kernel_rfl)
   (OpenSpec.preRow_of_cond 8 hx (by kernel_rfl) (fun k hk => by cases hk) (by kernel_rfl) (door_met os _))) ?_
 intro W base args ds gs before hval hW _ _ hw hl hsh _
 exact contract H enc W base args ds gs before hval hW hl hsh hw
theorem said : Rows.CodeLinesSaid :=
 OpenClaim.holds_of_cond 4 Tryd.f4 rfl rfl rfl rfl rfl rfl rfl ⟨rfl, rfl, rfl, rfl, rfl⟩ rfl rfl rfl rfl rfl (by kernel_rfl) Tryd.func4 (by kernel_rfl)
  (of_decide_eq_true (by kernel_rfl)) (by unfold Func.isWrapper; first | (rw [if_pos (by decide +kernel)]; kernel_rfl) | (rw [if_neg (by decide +kernel)]; exact ⟨rfl, rfl⟩))
  (fun os started H enc _ F => by rw [OpenClaim.pre_eq_preRow]; exact lifted os started H enc F)
theorem card_holds : Rows.CodeLinesCardSaid :=
  Claim7.holds_tied_plain_at .later [] [.data, .data, .data, .sentinel, .sentinel] true (true, "4814d49e08bec9d213004d1ff83b45b6c6f2f601c9686dbb0009fdf85d4a7422") true
    said (fun _ h => by cases h) (by kernel_rfl) (fun _ h => by cases h) codeLines_row_tie rfl ⟨rfl, rfl⟩ (by kernel_rfl) rfl
    (fun f fn hf hfn => by
      obtain rfl : f = 4 := Option.some.inj ((show Tryd.prog.funcNamed Rows.codeLinesRow.func = some 4 by kernel_rfl).symm.trans hf) |>.symm
      obtain rfl : fn = Tryd.f4 := (Option.some.inj (Tryd.func4.symm.trans hfn)).symm
      refine ⟨by kernel_rfl, fun j t ht => ?_⟩
      rw [Tryd.params4] at ht
      match j, ht with
      | 0, ht => obtain rfl : t = 32 := by simpa using ht.symm
                 exact (show Tryd.prog.wantsStandIn 32 = false by kernel_rfl)
      | 1, ht => obtain rfl : t = 9 := by simpa using ht.symm
                 exact (show Tryd.prog.wantsStandIn 9 = false by kernel_rfl)
      | 2, ht => obtain rfl : t = 9 := by simpa using ht.symm
                 exact (show Tryd.prog.wantsStandIn 9 = false by kernel_rfl)
      | n + 3, ht => exact absurd ht (by simp))
    (by kernel_rfl)
end Go.Proofs.YtaeoiobjddknbaaDoor.lines
