/- EngineNil: the nil engine's calls answer as the document says -/
import Derived.Test.YtmjjlpcielgjnaaGreatE5
import Derived.Test.YtmjjlpcielgjnaaGreatE5b
import Derived.Test.YtmjjlpcielgjnaaGreatVx
import Derived.Test.YtmjjlpcielgjnaaGreatRows
namespace Go.Proofs.YtmjjlpcielgjnaaGreat.nothing
set_option linter.unusedSimpArgs false
set_option linter.unnecessarySimpa false
open Go.ChangeShapes Go.WideShapes Go.ChangeAt Go.RowKit Go.V
set_option linter.unusedVariables false
set_option maxRecDepth 100000
theorem glz (W : World) : Gl Tryz.prog (E0 W) := by
 intro h
 have e : (Tryz.prog.globalNamed "strconv.ErrSyntax").isSome = false := by kernel_rfl
 rw [e] at h
 cases h
theorem own : ownKnob Tryz.prog.godebug = none := by kernel_rfl
theorem contract (H : Type) (enc : TypeId × Value → H) (W : World) (base : Nat) (args : Array Value) (ds gs : List (DataW H)) (before : List MemPlace)
  (hval : ∀ (j : Nat) t v, Tryz.f3.params[j]? = some t → args[j]? = some v → Value.okWide Tryz.prog W .any base t v)
  (hW : DataW.Whole enc Tryz.prog Tryz.f3.params.toList Rows.engineNilSpec.vars false W args.toList ds gs before)
  (hw : (DataW.weightsEach Tryz.prog (Tryz.f3.params.toList ++ (OpenSpec.ofChange Rows.engineNilSpec).bare.plain.varTypes Tryz.prog) (ds ++ gs)).all (· ≤ reachBytes) = true) :
  Calls Tryz.prog 3 args W fun e W' => ∃ v, e = .returned v ∧ Rows.engineNilSpec.post enc Tryz.prog Tryz.f3 false true false false W args v W' := by
 have hW' := hW
 obtain ⟨p, q, hA0, hV, rfl, hfz, hnd⟩ := hW
 have hA : DataW.TrodAll enc Tryz.prog W 0 (fun _ => true) true Tryz.f3.params.toList args.toList ds p := hA0
 obtain ⟨rfl, rfl⟩ := trodVars_none hV
 rw [Tryz.params3] at hA hval hw
 obtain ⟨v0, vs0, d0, ds0, p0, q0, hargs, rfl, rfl, h0, r0⟩ := trodAll_cons hA
 obtain ⟨rfl, rfl, rfl⟩ := trodAll_nil r0
 have hargs' : args = #[v0] := by cases args; simp_all
 subst hargs'
 clear hA0 hA
 simp only [List.cons_append, List.nil_append, DataW.weightsEach, List.append_nil, List.all_append, Bool.and_eq_true] at hw
 obtain ⟨hw0, _⟩ := hw
 obtain ⟨⟨x0, hx0, hb0, hr0⟩, hk0⟩ := openPr (T := 29) (t := .pair (.int .i64) (.pair (.int .u64) (.pair (.int .u64) (.pair .str (.pair .str (.pair (.int .i64) (.pair (.int .i64) (.pair (.int .i64) (.pair (.sl 8 (.int .i64)) (.pair (.sl 16 .str) (.sl 16 (.pair (.int .i64) (.int .i64))))))))))))) (va := true) (n := 9) (by decide +kernel) (by decide +kernel) (hval 0 _ v0 rfl rfl) h0 (fun k hk => by simpa using List.all_eq_true.1 hw0 k hk)
 refine (calls_true s3 (glz W) (svs := [.agg [.int .i64 x0.1, .int .u64 x0.2.1, .int .u64 x0.2.2.1, .str x0.2.2.2.1, .str x0.2.2.2.2.1, .int .i64 x0.2.2.2.2.2.1, .int .i64 x0.2.2.2.2.2.2.1, .int .i64 x0.2.2.2.2.2.2.2.1, .sl true 8 (.int .i64) x0.2.2.2.2.2.2.2.2.1, .sl true 16 .str x0.2.2.2.2.2.2.2.2.2.1, .sl true 16 (.pair (.int .i64) (.int .i64)) x0.2.2.2.2.2.2.2.2.2.2]]) ?_ ?_).mono fun e W' ⟨he, hk, hos, hout⟩ => ⟨_, he, ?_⟩
 ·simp only [denL]
  exact ⟨v0, [], rfl, hx0, rfl⟩
 ·simp only [rch] at hr0
  have h9 := hr0.2.2.2.2.2.2.2.2.2.1
  have hrb : reachBytes = 140737488351232 := rfl
  exact ⟨_, _, _, _, _, _, _, _, _, _, _, rfl, rfl, by omega, rfl⟩
 ·refine post_law hW' rfl (rt := 4) (by kernel_rfl) (by kernel_rfl) rfl hk hos hout (fun sp hp => ?_)
  rw [Tryz.params3]
  have := trodAll_cons_mk (hk0 W' sp hk (fun p hp' => hp p (by simp [hp']))) (trodAll_mk0)
  simpa only [List.append_nil, List.append_assoc] using this
theorem reads (os : Os) {H : Type} (enc : TypeId × Value → H) : ∃ places, DataW.whole enc Tryz.prog ((World.holding Tryz.prog os ⟨#[], #[], []⟩).forCall (fun _ _ => 0) ⟨#[], #[.agg #[.int .i64 0, .int .u64 0, .int .u64 0, .string .empty, .string .empty, .int .i64 0, .int .i64 0, .int .i64 0, .slice none 0 0, .slice none 0 0, .slice none 0 0]], []⟩).memory Tryz.f3.params.toList Rows.engineNilSpec.vars false (#[.agg #[.int .i64 0, .int .u64 0, .int .u64 0, .string .empty, .string .empty, .int .i64 0, .int .i64 0, .int .i64 0, .slice none 0 0, .slice none 0 0, .slice none 0 0]] : Array Value).toList 8 = some ([.agg [.lit (.int .i64 0), .lit (.int .u64 0), .lit (.int .u64 0), .lit (.string []), .lit (.string []), .lit (.int .i64 0), .lit (.int .i64 0), .lit (.int .i64 0), .nil, .agg [.nil, .nil]]], [], places) :=
 ⟨[], by kernel_rfl⟩
theorem lifted (os : Os) (started : os.Started) (H : Type) (enc : TypeId × Value → H) (F : Stop.Interp) :
  ReturnsInHanded {} Tryz.checked os 3 .any ((OpenSpec.ofChange Rows.engineNilSpec).preRow enc Tryz.prog Tryz.f3 Rows.engineNilRow.domain false Rows.engineNilRow.laid) (((OpenSpec.ofChange Rows.engineNilSpec).at F).post enc Tryz.prog Tryz.f3 false true false false) := by
 obtain ⟨places, hx⟩ := reads os enc
 refine returnsInHanded_of_row (C := Tryz.checked) (s := OpenSpec.ofChange Rows.engineNilSpec) own started (by kernel_rfl) Tryz.func3
  (witness_row_at (enc := enc) (C := Tryz.checked) false (World.holding Tryz.prog os ⟨#[], #[], []⟩) #[.agg #[.int .i64 0, .int .u64 0, .int .u64 0, .string .empty, .string .empty, .int .i64 0, .int .i64 0, .int .i64 0, .slice none 0 0, .slice none 0 0, .slice none 0 0]] rfl (by kernel_rfl) (by kernel_rfl) (by kernel_rfl)
   (OpenSpec.preRow_of_cond 8 hx (by kernel_rfl) (fun k hk => by cases hk) (by kernel_rfl) (laidMetH_nil _ _))) ?_
 intro W base args ds gs before hval hW _ _ hw _ _ _
 exact contract H enc W base args ds gs before hval hW hw
theorem said : Rows.EngineNilSaid :=
 OpenClaim.holds_of_cond 3 Tryz.f3 rfl rfl rfl rfl rfl rfl rfl ⟨rfl, rfl, rfl, rfl, rfl⟩ rfl rfl rfl rfl rfl (by kernel_rfl) Tryz.func3 closed
  (of_decide_eq_true (by kernel_rfl)) (by unfold Func.isWrapper; first | (rw [if_pos (by decide +kernel)]; kernel_rfl) | (rw [if_neg (by decide +kernel)]; exact ⟨rfl, rfl⟩))
  (fun os started H enc _ F => by rw [OpenClaim.pre_eq_preRow]; exact lifted os started H enc F)
end Go.Proofs.YtmjjlpcielgjnaaGreat.nothing
