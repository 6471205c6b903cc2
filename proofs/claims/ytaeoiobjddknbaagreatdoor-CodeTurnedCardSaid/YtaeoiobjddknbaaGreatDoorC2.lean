/- CodeTurned: a program's text, and its bytes, cut off or with one byte turned, are judged as the document says; the card -/
import Derived.Test.YtaeoiobjddknbaaGreatDoorC1
import Derived.Test.YtaeoiobjddknbaaGreatDoorVx
import Derived.Test.YtaeoiobjddknbaaGreatDoorTie
import Derived.Test.YtaeoiobjddknbaaGreatDoorCards
import Derived.Deep.DeepWitnessRowRef
import Derived.SevenTiedAt
namespace Go.Proofs.YtaeoiobjddknbaaGreatDoor.turned
set_option linter.unusedSimpArgs false
set_option linter.unnecessarySimpa false
open Go.ChangeShapes Go.WideShapes Go.ChangeAt Go.RowKit Go.V
set_option linter.unusedVariables false
set_option maxRecDepth 100000
theorem own : ownKnob Tryz.prog.godebug = none := by kernel_rfl
theorem contract (H : Type) (enc : TypeId × Value → H) (W : World) (base : Nat) (args : Array Value) (ds gs : List (DataW H)) (before : List MemPlace)
  (hval : ∀ (j : Nat) t v, Tryz.f3.params[j]? = some t → args[j]? = some v → Value.okWide Tryz.prog W .any base t v)
  (hW : DataW.Whole enc Tryz.prog Tryz.f3.params.toList Rows.codeTurnedSpec.vars false W args.toList ds gs before)
  (hl : laidMetH Tryz.prog Rows.codeTurnedRow.laid W) (hsh : W.ShapedOpen Tryz.prog)
  (hw : (DataW.weightsEach Tryz.prog (Tryz.f3.params.toList ++ (OpenSpec.ofChange Rows.codeTurnedSpec).bare.plain.varTypes Tryz.prog) (ds ++ gs)).all (· ≤ reachBytes) = true) :
  Calls Tryz.prog 3 args W fun e W' => ∃ v, e = .returned v ∧ Rows.codeTurnedSpec.post enc Tryz.prog Tryz.f3 false true false false W args v W' := by
 have hW' := hW
 obtain ⟨p, q, hA0, hV, rfl, hfz, hnd⟩ := hW
 have hA : DataW.TrodAll enc Tryz.prog W 0 (fun _ => true) true Tryz.f3.params.toList args.toList ds p := hA0
 obtain ⟨rfl, rfl⟩ := trodVars_none hV
 rw [Tryz.params3] at hA hval hw
 obtain ⟨v0, vs0, d0, ds0, p0, q0, hargs, rfl, rfl, h0, r0⟩ := trodAll_cons hA
 obtain ⟨v1, vs1, d1, ds1, p1, q1, rfl, rfl, rfl, h1, r1⟩ := trodAll_cons r0
 obtain ⟨v2, vs2, d2, ds2, p2, q2, rfl, rfl, rfl, h2, r2⟩ := trodAll_cons r1
 obtain ⟨v3, vs3, d3, ds3, p3, q3, rfl, rfl, rfl, h3, r3⟩ := trodAll_cons r2
 obtain ⟨rfl, rfl, rfl⟩ := trodAll_nil r3
 have hargs' : args = #[v0, v1, v2, v3] := by cases args; simp_all
 subst hargs'
 clear hA0 hA
 simp only [List.cons_append, List.nil_append, DataW.weightsEach, List.append_nil, List.all_append, Bool.and_eq_true] at hw
 obtain ⟨hw0, hw1, hw2, hw3, _⟩ := hw
 obtain ⟨⟨x0, hx0, hb0⟩, hk0⟩ := openP (T := 25) (t := .pair (.sl 16 .str) (.sl 16 EvT)) (va := true) (n := 9) (by decide +kernel) (by decide +kernel) (hval 0 _ v0 rfl rfl) h0 (fun k hk => by simpa using List.all_eq_true.1 hw0 k hk)
 obtain ⟨⟨x1, hx1, hb1⟩, hk1⟩ := openP (T := 3) (t := .int .i64) (va := false) (n := 9) (by decide +kernel) (by decide +kernel) (hval 1 _ v1 rfl rfl) h1 (fun k hk => by simpa using List.all_eq_true.1 hw1 k hk)
 obtain ⟨⟨x2, hx2, hb2⟩, hk2⟩ := openP (T := 5) (t := .byte) (va := false) (n := 9) (by decide +kernel) (by decide +kernel) (hval 2 _ v2 rfl rfl) h2 (fun k hk => by simpa using List.all_eq_true.1 hw2 k hk)
 obtain ⟨⟨x3, hx3, hb3⟩, hk3⟩ := openP (T := 3) (t := .int .i64) (va := false) (n := 9) (by decide +kernel) (by decide +kernel) (hval 3 _ v3 rfl rfl) h3 (fun k hk => by simpa using List.all_eq_true.1 hw3 k hk)
 refine (calls_true s3 (gl_of_laid hl hsh) (svs := [.agg [.sl true 16 .str x0.1, .sl true 16 EvT x0.2], .int .i64 x1, .int .u8 (UInt8.toNat x2), .int .i64 x3]) ?_ ?_).mono fun e W' ⟨he, hk, hos, hout⟩ => ⟨_, he, ?_⟩
 ·simp only [denL]
  exact ⟨v0, [v1, v2, v3], rfl, hx0, ⟨v1, [v2, v3], rfl, hx1, ⟨v2, [v3], rfl, hx2, ⟨v3, [], rfl, hx3, rfl⟩⟩⟩⟩
 ·have := UInt8.toNat_lt x2; exact ⟨⟨by omega, by omega⟩, rfl⟩
 ·refine post_law hW' rfl (rt := 4) (by kernel_rfl) (by kernel_rfl) rfl hk hos hout (fun sp hp => ?_)
  rw [Tryz.params3]
  have := trodAll_cons_mk (hk0 W' sp hk (fun p hp' => hp p (by simp [hp']))) (trodAll_cons_mk (hk1 W' sp hk (fun p hp' => hp p (by simp [hp']))) (trodAll_cons_mk (hk2 W' sp hk (fun p hp' => hp p (by simp [hp']))) (trodAll_cons_mk (hk3 W' sp hk (fun p hp' => hp p (by simp [hp']))) (trodAll_mk0))))
  simpa only [List.append_nil, List.append_assoc] using this
theorem reads (os : Os) {H : Type} (enc : TypeId × Value → H) : ∃ places, DataW.whole enc Tryz.prog ((World.doorLaid Tryz.prog 62 os).forCall (fun _ _ => 0) ⟨#[], #[.agg #[.slice none 0 0, .slice none 0 0], .int .i64 0, .int .u8 0, .int .i64 0], []⟩).memory Tryz.f3.params.toList Rows.codeTurnedSpec.vars false (#[.agg #[.slice none 0 0, .slice none 0 0], .int .i64 0, .int .u8 0, .int .i64 0] : Array Value).toList 8 = some ([.agg [.nil, .nil], .lit (.int .i64 0), .lit (.int .u8 0), .lit (.int .i64 0)], [], places) :=
 ⟨[], by kernel_rfl⟩
theorem lifted (os : Os) (started : os.Started) (H : Type) (enc : TypeId × Value → H) (F : Stop.Interp) :
  ReturnsInHanded {} Tryz.checked os 3 .any ((OpenSpec.ofChange Rows.codeTurnedSpec).preRow enc Tryz.prog Tryz.f3 Rows.codeTurnedRow.domain false Rows.codeTurnedRow.laid) (((OpenSpec.ofChange Rows.codeTurnedSpec).at F).post enc Tryz.prog Tryz.f3 false true false false) := by
 obtain ⟨places, hx⟩ := reads os enc
 refine returnsInHanded_of_row (C := Tryz.checked) (s := OpenSpec.ofChange Rows.codeTurnedSpec) own started (by kernel_rfl) Tryz.func3
  (witness_row_atRef (enc := enc) (C := Tryz.checked) false (World.doorLaid Tryz.prog 62 os) #[.agg #[.slice none 0 0, .slice none 0 0], .int .i64 0, .int .u8 0, .int .i64 0] rfl (by kernel_rfl) (by kernel_rfl) (by kernel_rfl)
   (OpenSpec.preRow_of_cond 8 hx (by kernel_rfl) (fun k hk => by cases hk) (by kernel_rfl) (door_met os _))) ?_
 intro W base args ds gs before hval hW _ _ hw hl hsh _
 exact contract H enc W base args ds gs before hval hW hl hsh hw
theorem said : Rows.CodeTurnedSaid :=
 OpenClaim.holds_of_cond 3 Tryz.f3 rfl rfl rfl rfl rfl rfl rfl ⟨rfl, rfl, rfl, rfl, rfl⟩ rfl rfl rfl rfl rfl (by kernel_rfl) Tryz.func3 (by kernel_rfl)
  (of_decide_eq_true (by kernel_rfl)) (by unfold Func.isWrapper; first | (rw [if_pos (by decide +kernel)]; kernel_rfl) | (rw [if_neg (by decide +kernel)]; exact ⟨rfl, rfl⟩))
  (fun os started H enc _ F => by rw [OpenClaim.pre_eq_preRow]; exact lifted os started H enc F)
theorem card_holds : Rows.CodeTurnedCardSaid :=
  Claim7.holds_tied_plain_at .later [] [.data, .data, .data, .sentinel, .sentinel] true (true, "359f7e63425faa2d864f1404afd64beaf32a1fc105c79a8b6f5850e2f584b599") true
    said (fun _ h => by cases h) (by kernel_rfl) (fun _ h => by cases h) codeTurned_row_tie rfl ⟨rfl, rfl⟩ (by kernel_rfl) rfl
    (fun f fn hf hfn => by
      obtain rfl : f = 3 := Option.some.inj ((show Tryz.prog.funcNamed Rows.codeTurnedRow.func = some 3 by kernel_rfl).symm.trans hf) |>.symm
      obtain rfl : fn = Tryz.f3 := (Option.some.inj (Tryz.func3.symm.trans hfn)).symm
      refine ⟨by kernel_rfl, fun j t ht => ?_⟩
      rw [Tryz.params3] at ht
      match j, ht with
      | 0, ht => obtain rfl : t = 25 := by simpa using ht.symm
                 exact (show Tryz.prog.wantsStandIn 25 = false by kernel_rfl)
      | 1, ht => obtain rfl : t = 3 := by simpa using ht.symm
                 exact (show Tryz.prog.wantsStandIn 3 = false by kernel_rfl)
      | 2, ht => obtain rfl : t = 5 := by simpa using ht.symm
                 exact (show Tryz.prog.wantsStandIn 5 = false by kernel_rfl)
      | 3, ht => obtain rfl : t = 3 := by simpa using ht.symm
                 exact (show Tryz.prog.wantsStandIn 3 = false by kernel_rfl)
      | n + 4, ht => exact absurd ht (by simp))
    (by kernel_rfl)
end Go.Proofs.YtaeoiobjddknbaaGreatDoor.turned
