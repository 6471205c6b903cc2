/- OutboxKeys returns true for every input and leaves its argument as it was: the first form of the statement, without any condition beyond those that the statement itself bears. -/
import Derived.Test.YtkjecjgfkogkoaaP2
import Derived.Test.YtkjecjgfkogkoaaVx
import Derived.Test.YtkjecjgfkogkoaaRows
namespace Go.Proofs.Ytkjecjgfkogkoaa.keys
set_option linter.unusedSimpArgs false
set_option linter.unnecessarySimpa false
open Go.ChangeShapes Go.WideShapes Go.ChangeAt Go.RowKit Go.V
set_option linter.unusedVariables false
set_option maxRecDepth 100000

theorem own : ownKnob Try.prog.godebug = none := by kernel_rfl

theorem contract (H : Type) (enc : TypeId × Value → H) (W : World) (base : Nat) (args : Array Value) (ds gs : List (DataW H)) (before : List MemPlace)
    (hval : ∀ (j : Nat) t v, Try.f3.params[j]? = some t → args[j]? = some v → Value.okWide Try.prog W .any base t v)
    (hW : DataW.Whole enc Try.prog Try.f3.params.toList Rows.outboxKeysSpec.vars false W args.toList ds gs before)
    (hw : (DataW.weightsEach Try.prog (Try.f3.params.toList ++ (OpenSpec.ofChange Rows.outboxKeysSpec).bare.plain.varTypes Try.prog) (ds ++ gs)).all (· ≤ reachBytes) = true) :
    Calls Try.prog 3 args W fun e W' => ∃ v, e = .returned v ∧ Rows.outboxKeysSpec.post enc Try.prog Try.f3 false true false false W args v W' := by
  have hW' := hW
  obtain ⟨p, q, hA0, hV, rfl, hfz, hnd⟩ := hW
  have hA : DataW.TrodAll enc Try.prog W 0 (fun _ => true) true Try.f3.params.toList args.toList ds p := hA0
  obtain ⟨rfl, rfl⟩ := trodVars_none hV
  rw [Try.params3] at hA hval hw
  obtain ⟨v0, vs0, d0, ds0, p0, q0, hargs, rfl, rfl, h0, r0⟩ := trodAll_cons hA
  obtain ⟨rfl, rfl, rfl⟩ := trodAll_nil r0
  have hargs' : args = #[v0] := by cases args; simp_all
  subst hargs'
  clear hA0 hA
  have hw0 : ∀ k ∈ d0.weights Try.prog _, k ≤ reachBytes := fun k hk => by
    have := List.all_eq_true.1 hw k (by simp only [List.cons_append, DataW.weightsEach, List.mem_append]; exact .inl hk)
    simpa using this
  obtain ⟨⟨x0, hx0, _⟩, hk0⟩ := openP (T := 5) (t := .byte) (va := false) (n := 5) (by decide +kernel) (by decide +kernel) (hval 0 _ v0 rfl rfl) h0 hw0
  refine (calls_true s3 (svs := [.int .u8 (x0.toNat : Int)]) ?_ ?_).mono fun e W' ⟨he, hk, hos, hout⟩ => ⟨_, he, ?_⟩
  · simp only [denL]
    exact ⟨v0, [], rfl, hx0, rfl⟩
  · refine ⟨by omega, ?_, rfl⟩
    have := UInt8.toNat_lt x0
    omega
  · refine post_law hW' rfl (rt := 4) (by kernel_rfl) (by kernel_rfl) rfl hk hos hout (fun sp hp => ?_)
    rw [Try.params3]
    have := trodAll_cons_mk (hk0 W' sp hk (fun p hp' => hp p (by simp [hp']))) trodAll_mk0
    simpa only [List.append_nil] using this

theorem reads (os : Os) {H : Type} (enc : TypeId × Value → H) : ∃ places, DataW.whole enc Try.prog ((World.holding Try.prog os ⟨#[], #[], []⟩).forCall (fun _ _ => 0) ⟨#[], #[.int .u8 0], []⟩).memory Try.f3.params.toList Rows.outboxKeysSpec.vars false #[Value.int .u8 0].toList 8 = some ([.lit (.int .u8 0)], [], places) :=
  ⟨[], by kernel_rfl⟩

theorem lifted (os : Os) (started : os.Started) (H : Type) (enc : TypeId × Value → H) (F : Stop.Interp) :
    ReturnsInHanded {} Try.checked os 3 .any ((OpenSpec.ofChange Rows.outboxKeysSpec).preRow enc Try.prog Try.f3 Rows.outboxKeysRow.domain false Rows.outboxKeysRow.laid) (((OpenSpec.ofChange Rows.outboxKeysSpec).at F).post enc Try.prog Try.f3 false true false false) := by
  obtain ⟨places, hx⟩ := reads os enc
  refine returnsInHanded_of_row (C := Try.checked) (s := OpenSpec.ofChange Rows.outboxKeysSpec) own started (by kernel_rfl) Try.func3
    (witness_row_at (enc := enc) (C := Try.checked) false (World.holding Try.prog os ⟨#[], #[], []⟩) #[.int .u8 0] rfl (by kernel_rfl) (by kernel_rfl) (by kernel_rfl)
      (OpenSpec.preRow_of_cond 8 hx (by kernel_rfl) (fun k hk => by cases hk) (by kernel_rfl) (laidMetH_nil _ _))) ?_
  intro W base args ds gs before hval hW _ _ hw _ _ _
  exact contract H enc W base args ds gs before hval hW hw

theorem said : Rows.OutboxKeysSaid :=
  OpenClaim.holds_of_cond 3 Try.f3 rfl rfl rfl rfl rfl rfl rfl ⟨rfl, rfl, rfl, rfl, rfl⟩ rfl rfl rfl rfl rfl (by kernel_rfl) Try.func3 (by kernel_rfl)
    (of_decide_eq_true (by kernel_rfl)) (by unfold Func.isWrapper; first | (rw [if_pos (by decide +kernel)]; kernel_rfl) | (rw [if_neg (by decide +kernel)]; exact ⟨rfl, rfl⟩))
    (fun os started H enc _ F => by rw [OpenClaim.pre_eq_preRow]; exact lifted os started H enc F)
end Go.Proofs.Ytkjecjgfkogkoaa.keys
