/- any actor's turns, one behind the other, by any program, come to what the document says; what is told as an error has changed nothing -/
import Derived.Test.YtbcmjkfdeikkhaaGreatB12
import Derived.Test.YtbcmjkfdeikkhaaGreatVx
import Derived.Test.YtbcmjkfdeikkhaaGreatRows
namespace Go.Proofs.YtbcmjkfdeikkhaaGreat.takes
set_option linter.unusedSimpArgs false
set_option linter.unnecessarySimpa false
open Go.ChangeShapes Go.WideShapes Go.ChangeAt Go.RowKit Go.V
set_option linter.unusedVariables false
set_option maxRecDepth 100000
theorem own : ownKnob Tryz.prog.godebug = none := by kernel_rfl
theorem contract (H : Type) (enc : TypeId × Value → H) (W : World) (base : Nat) (args : Array Value) (ds gs : List (DataW H)) (before : List MemPlace)
  (hval : ∀ (j : Nat) t v, Tryz.f4.params[j]? = some t → args[j]? = some v → Value.okWide Tryz.prog W .any base t v)
  (hW : DataW.Whole enc Tryz.prog Tryz.f4.params.toList Rows.turnTakesSpec.vars false W args.toList ds gs before)
  (hw : (DataW.weightsEach Tryz.prog (Tryz.f4.params.toList ++ (OpenSpec.ofChange Rows.turnTakesSpec).bare.plain.varTypes Tryz.prog) (ds ++ gs)).all (· ≤ reachBytes) = true) :
  Calls Tryz.prog 4 args W fun e W' => ∃ v, e = .returned v ∧ Rows.turnTakesSpec.post enc Tryz.prog Tryz.f4 false true false false W args v W' := by
 have hW' := hW
 obtain ⟨p, q, hA0, hV, rfl, hfz, hnd⟩ := hW
 have hA : DataW.TrodAll enc Tryz.prog W 0 (fun _ => true) true Tryz.f4.params.toList args.toList ds p := hA0
 obtain ⟨rfl, rfl⟩ := trodVars_none hV
 rw [Tryz.params4] at hA hval hw
 obtain ⟨v0, vs0, d0, ds0, p0, q0, hargs, rfl, rfl, h0, r0⟩ := trodAll_cons hA
 obtain ⟨v1, vs1, d1, ds1, p1, q1, rfl, rfl, rfl, h1, r1⟩ := trodAll_cons r0
 obtain ⟨v2, vs2, d2, ds2, p2, q2, rfl, rfl, rfl, h2, r2⟩ := trodAll_cons r1
 obtain ⟨v3, vs3, d3, ds3, p3, q3, rfl, rfl, rfl, h3, r3⟩ := trodAll_cons r2
 obtain ⟨rfl, rfl, rfl⟩ := trodAll_nil r3
 have hargs' : args = #[v0, v1, v2, v3] := by cases args; simp_all
 subst hargs'
 clear hA0 hA
 simp only [List.cons_append, List.nil_append, DataW.weightsEach, List.append_nil, List.all_append, Bool.and_eq_true] at hw
 obtain ⟨hw0, hw1, hw2, hw3, _⟩ := hw
 obtain ⟨⟨x0, hx0, hb0⟩, hk0⟩ := openP (T := 25) (t := .pair (.sl 16 .str) (.sl 16 EvT)) (va := true) (n := 9) (by decide +kernel) (by decide +kernel) (hval 0 _ v0 rfl rfl) h0 (fun k hk => by simpa using List.all_eq_true.1 hw0 k hk)
 obtain ⟨⟨x1, hx1, hb1⟩, hk1⟩ := openP (T := 29) (t := .pair (.sl 56 LetT) (.pair (.sl 56 LetT) (.pair (.sl 16 .str) (.pair (.sl 16 EvT) (.int .i64))))) (va := true) (n := 9) (by decide +kernel) (by decide +kernel) (hval 1 _ v1 rfl rfl) h1 (fun k hk => by simpa using List.all_eq_true.1 hw1 k hk)
 obtain ⟨⟨x2, hx2, hb2⟩, hk2⟩ := openP (T := 2) (t := .int .i64) (va := false) (n := 9) (by decide +kernel) (by decide +kernel) (hval 2 _ v2 rfl rfl) h2 (fun k hk => by simpa using List.all_eq_true.1 hw2 k hk)
 obtain ⟨⟨x3, hx3, hb3⟩, hk3⟩ := openP (T := 5) (t := .byte) (va := false) (n := 9) (by decide +kernel) (by decide +kernel) (hval 3 _ v3 rfl rfl) h3 (fun k hk => by simpa using List.all_eq_true.1 hw3 k hk)
 refine (calls_true s4 (svs := [.agg [.sl true 16 .str x0.1, .sl true 16 EvT x0.2], .agg [.sl true 56 LetT x1.1, .sl true 56 LetT x1.2.1, .sl true 16 .str x1.2.2.1, .sl true 16 EvT x1.2.2.2.1, .int .i64 x1.2.2.2.2], .int .i64 x2, .int .u8 (UInt8.toNat x3)]) ?_ ?_).mono fun e W' ⟨he, hk, hos, hout⟩ => ⟨_, he, ?_⟩
 ·simp only [denL]
  exact ⟨v0, [v1, v2, v3], rfl, hx0, ⟨v1, [v2, v3], rfl, hx1, ⟨v2, [v3], rfl, hx2, ⟨v3, [], rfl, hx3, rfl⟩⟩⟩⟩
 ·have := UInt8.toNat_lt x3; exact ⟨⟨by omega, by omega⟩, rfl⟩
 ·refine post_law hW' rfl (rt := 4) (by kernel_rfl) (by kernel_rfl) rfl hk hos hout (fun sp hp => ?_)
  rw [Tryz.params4]
  have := trodAll_cons_mk (hk0 W' sp hk (fun p hp' => hp p (by simp [hp']))) (trodAll_cons_mk (hk1 W' sp hk (fun p hp' => hp p (by simp [hp']))) (trodAll_cons_mk (hk2 W' sp hk (fun p hp' => hp p (by simp [hp']))) (trodAll_cons_mk (hk3 W' sp hk (fun p hp' => hp p (by simp [hp']))) (trodAll_mk0))))
  simpa only [List.append_nil, List.append_assoc] using this
theorem reads (os : Os) {H : Type} (enc : TypeId × Value → H) : ∃ places, DataW.whole enc Tryz.prog ((World.holding Tryz.prog os ⟨#[], #[], []⟩).forCall (fun _ _ => 0) ⟨#[], #[.agg #[.slice none 0 0, .slice none 0 0], .agg #[.slice none 0 0, .slice none 0 0, .slice none 0 0, .slice none 0 0, .int .i64 0], .int .i64 0, .int .u8 0], []⟩).memory Tryz.f4.params.toList Rows.turnTakesSpec.vars false (#[.agg #[.slice none 0 0, .slice none 0 0], .agg #[.slice none 0 0, .slice none 0 0, .slice none 0 0, .slice none 0 0, .int .i64 0], .int .i64 0, .int .u8 0] : Array Value).toList 8 = some ([.agg [.nil, .nil], .agg [.nil, .nil, .nil, .nil, .lit (.int .i64 0)], .lit (.int .i64 0), .lit (.int .u8 0)], [], places) :=
 ⟨[], by kernel_rfl⟩
theorem lifted (os : Os) (started : os.Started) (H : Type) (enc : TypeId × Value → H) (F : Stop.Interp) :
  ReturnsInHanded {} Tryz.checked os 4 .any ((OpenSpec.ofChange Rows.turnTakesSpec).preRow enc Tryz.prog Tryz.f4 Rows.turnTakesRow.domain false Rows.turnTakesRow.laid) (((OpenSpec.ofChange Rows.turnTakesSpec).at F).post enc Tryz.prog Tryz.f4 false true false false) := by
 obtain ⟨places, hx⟩ := reads os enc
 refine returnsInHanded_of_row (C := Tryz.checked) (s := OpenSpec.ofChange Rows.turnTakesSpec) own started (by kernel_rfl) Tryz.func4
  (witness_row_at (enc := enc) (C := Tryz.checked) false (World.holding Tryz.prog os ⟨#[], #[], []⟩) #[.agg #[.slice none 0 0, .slice none 0 0], .agg #[.slice none 0 0, .slice none 0 0, .slice none 0 0, .slice none 0 0, .int .i64 0], .int .i64 0, .int .u8 0] rfl (by kernel_rfl) (by kernel_rfl) (by kernel_rfl)
   (OpenSpec.preRow_of_cond 8 hx (by kernel_rfl) (fun k hk => by cases hk) (by kernel_rfl) (laidMetH_nil _ _))) ?_
 intro W base args ds gs before hval hW _ _ hw _ _ _
 exact contract H enc W base args ds gs before hval hW hw
theorem said : Rows.TurnTakesSaid :=
 OpenClaim.holds_of_cond 4 Tryz.f4 rfl rfl rfl rfl rfl rfl rfl ⟨rfl, rfl, rfl, rfl, rfl⟩ rfl rfl rfl rfl rfl (by kernel_rfl) Tryz.func4 (by kernel_rfl)
  (of_decide_eq_true (by kernel_rfl)) (by unfold Func.isWrapper; first | (rw [if_pos (by decide +kernel)]; kernel_rfl) | (rw [if_neg (by decide +kernel)]; exact ⟨rfl, rfl⟩))
  (fun os started H enc _ F => by rw [OpenClaim.pre_eq_preRow]; exact lifted os started H enc F)
end Go.Proofs.YtbcmjkfdeikkhaaGreat.takes
