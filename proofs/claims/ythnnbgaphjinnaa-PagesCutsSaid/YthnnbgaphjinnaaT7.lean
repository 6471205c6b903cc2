/- The law PagesCuts holds at every input: a disk that is cut after any number of writes opens under the names of the texts that were whole by then, and gives them; no condition. -/
import Derived.Test.YthnnbgaphjinnaaD19
import Derived.Test.YthnnbgaphjinnaaVx
import Derived.Test.YthnnbgaphjinnaaRows
namespace Go.Proofs.Ythnnbgaphjinnaa.cuts
set_option linter.unusedSimpArgs false
set_option linter.unnecessarySimpa false
open Go.ChangeShapes Go.WideShapes Go.ChangeAt Go.RowKit Go.V
set_option linter.unusedVariables false
set_option maxRecDepth 100000
theorem own : ownKnob Try.prog.godebug = none := by kernel_rfl

theorem contract (H : Type) (enc : TypeId × Value → H) (W : World) (base : Nat) (args : Array Value) (ds gs : List (DataW H)) (before : List MemPlace)
    (hval : ∀ (j : Nat) t v, Try.f7.params[j]? = some t → args[j]? = some v → Value.okWide Try.prog W .any base t v)
    (hW : DataW.Whole enc Try.prog Try.f7.params.toList Rows.pagesCutsSpec.vars false W args.toList ds gs before)
    (hw : (DataW.weightsEach Try.prog (Try.f7.params.toList ++ (OpenSpec.ofChange Rows.pagesCutsSpec).bare.plain.varTypes Try.prog) (ds ++ gs)).all (· ≤ reachBytes) = true) :
    Calls Try.prog 7 args W fun e W' => ∃ v, e = .returned v ∧ Rows.pagesCutsSpec.post enc Try.prog Try.f7 false true false false W args v W' := by
  have hW' := hW
  obtain ⟨p, q, hA0, hV, rfl, hfz, hnd⟩ := hW
  have hA : DataW.TrodAll enc Try.prog W 0 (fun _ => true) true Try.f7.params.toList args.toList ds p := hA0
  obtain ⟨rfl, rfl⟩ := trodVars_none hV
  rw [Try.params7] at hA hval hw
  obtain ⟨v0, vs0, d0, ds0, p0, q0, hargs, rfl, rfl, h0, r0⟩ := trodAll_cons hA
  obtain ⟨rfl, rfl, rfl⟩ := trodAll_nil r0
  have hargs' : args = #[v0] := by cases args; simp_all
  subst hargs'
  clear hA0 hA
  simp only [List.cons_append, List.nil_append, DataW.weightsEach, List.append_nil, List.all_append, Bool.and_eq_true] at hw
  obtain ⟨hw0, _⟩ := hw
  obtain ⟨⟨x0, hx0, hb0⟩, hk0⟩ := openP (T := 38) (t := .sl 40 (.pair (.int .i64) (.pair (.int .i64) (.sl 1 .byte)))) (va := false) (n := 9) (by decide +kernel) (by decide +kernel) (hval 0 _ v0 rfl rfl) h0 (fun k hk => by simpa using List.all_eq_true.1 hw0 k hk)
  refine (calls_true s7 (svs := [.sl true 40 (.pair (.int .i64) (.pair (.int .i64) (.sl 1 .byte))) x0]) ?_ ?_).mono fun e W' ⟨he, hk, hos, hout⟩ => ⟨_, he, ?_⟩
  · simp only [denL]
    exact ⟨v0, [], rfl, hx0, rfl⟩
  · exact rfl
  · refine post_law hW' rfl (rt := 4) (by kernel_rfl) (by kernel_rfl) rfl hk hos hout (fun sp hp => ?_)
    rw [Try.params7]
    have := trodAll_cons_mk (hk0 W' sp hk (fun p hp' => hp p (by simp [hp']))) (trodAll_mk0)
    simpa only [List.append_nil, List.append_assoc] using this

theorem reads (os : Os) {H : Type} (enc : TypeId × Value → H) : ∃ places, DataW.whole enc Try.prog ((World.holding Try.prog os ⟨#[], #[], []⟩).forCall (fun _ _ => 0) ⟨#[], #[.slice none 0 0], []⟩).memory Try.f7.params.toList Rows.pagesCutsSpec.vars false (#[.slice none 0 0] : Array Value).toList 8 = some ([.nil], [], places) :=
  ⟨[], by kernel_rfl⟩

theorem lifted (os : Os) (started : os.Started) (H : Type) (enc : TypeId × Value → H) (F : Stop.Interp) :
    ReturnsInHanded {} Try.checked os 7 .any ((OpenSpec.ofChange Rows.pagesCutsSpec).preRow enc Try.prog Try.f7 Rows.pagesCutsRow.domain false Rows.pagesCutsRow.laid) (((OpenSpec.ofChange Rows.pagesCutsSpec).at F).post enc Try.prog Try.f7 false true false false) := by
  obtain ⟨places, hx⟩ := reads os enc
  refine returnsInHanded_of_row (C := Try.checked) (s := OpenSpec.ofChange Rows.pagesCutsSpec) own started (by kernel_rfl) Try.func7
    (witness_row_at (enc := enc) (C := Try.checked) false (World.holding Try.prog os ⟨#[], #[], []⟩) #[.slice none 0 0] rfl (by kernel_rfl) (by kernel_rfl) (by kernel_rfl)
      (OpenSpec.preRow_of_cond 8 hx (by kernel_rfl) (fun k hk => by cases hk) (by kernel_rfl) (laidMetH_nil _ _))) ?_
  intro W base args ds gs before hval hW _ _ hw _ _ _
  exact contract H enc W base args ds gs before hval hW hw

theorem said : Rows.PagesCutsSaid :=
  OpenClaim.holds_of_cond 7 Try.f7 rfl rfl rfl rfl rfl rfl rfl ⟨rfl, rfl, rfl, rfl, rfl⟩ rfl rfl rfl rfl rfl (by kernel_rfl) Try.func7 (by kernel_rfl)
    (of_decide_eq_true (by kernel_rfl)) (by unfold Func.isWrapper; first | (rw [if_pos (by decide +kernel)]; kernel_rfl) | (rw [if_neg (by decide +kernel)]; exact ⟨rfl, rfl⟩))
    (fun os started H enc _ F => by rw [OpenClaim.pre_eq_preRow]; exact lifted os started H enc F)
end Go.Proofs.Ythnnbgaphjinnaa.cuts
