/- Any actor, made of any letters, sends, events, tries and poison, has the bytes that the document says, or none; and is fresh just if the document says so. No conditions. -/
import Derived.Test.YtbcmjkfdeikkhaaA47
import Derived.Test.YtbcmjkfdeikkhaaVx
import Derived.Test.YtbcmjkfdeikkhaaRows
namespace Go.Proofs.Ytbcmjkfdeikkhaa.encodes
set_option linter.unusedSimpArgs false
set_option linter.unnecessarySimpa false
open Go.ChangeShapes Go.WideShapes Go.ChangeAt Go.RowKit Go.V
set_option linter.unusedVariables false
set_option maxRecDepth 100000

theorem own : ownKnob Try.prog.godebug = none := by kernel_rfl

theorem contract (H : Type) (enc : TypeId × Value → H) (W : World) (base : Nat) (args : Array Value) (ds gs : List (DataW H)) (before : List MemPlace)
    (hval : ∀ (j : Nat) t v, Try.f3.params[j]? = some t → args[j]? = some v → Value.okWide Try.prog W .any base t v)
    (hW : DataW.Whole enc Try.prog Try.f3.params.toList Rows.actorEncodesSpec.vars false W args.toList ds gs before)
    (hw : (DataW.weightsEach Try.prog (Try.f3.params.toList ++ (OpenSpec.ofChange Rows.actorEncodesSpec).bare.plain.varTypes Try.prog) (ds ++ gs)).all (· ≤ reachBytes) = true) :
    Calls Try.prog 3 args W fun e W' => ∃ v, e = .returned v ∧ Rows.actorEncodesSpec.post enc Try.prog Try.f3 false true false false W args v W' := by
  have hW' := hW
  obtain ⟨p, q, hA0, hV, rfl, hfz, hnd⟩ := hW
  have hA : DataW.TrodAll enc Try.prog W 0 (fun _ => true) true Try.f3.params.toList args.toList ds p := hA0
  obtain ⟨rfl, rfl⟩ := trodVars_none hV
  rw [Try.params3] at hA hval hw
  obtain ⟨v0, vs0, d0, ds0, p0, q0, hargs, rfl, rfl, h0, r0⟩ := trodAll_cons hA
  obtain ⟨v1, vs1, d1, ds1, p1, q1, rfl, rfl, rfl, h1, r1⟩ := trodAll_cons r0
  obtain ⟨v2, vs2, d2, ds2, p2, q2, rfl, rfl, rfl, h2, r2⟩ := trodAll_cons r1
  obtain ⟨v3, vs3, d3, ds3, p3, q3, rfl, rfl, rfl, h3, r3⟩ := trodAll_cons r2
  obtain ⟨v4, vs4, d4, ds4, p4, q4, rfl, rfl, rfl, h4, r4⟩ := trodAll_cons r3
  obtain ⟨v5, vs5, d5, ds5, p5, q5, rfl, rfl, rfl, h5, r5⟩ := trodAll_cons r4
  obtain ⟨rfl, rfl, rfl⟩ := trodAll_nil r5
  have hargs' : args = #[v0, v1, v2, v3, v4, v5] := by cases args; simp_all
  subst hargs'
  clear hA0 hA
  simp only [List.cons_append, List.nil_append, DataW.weightsEach, List.append_nil, List.all_append, Bool.and_eq_true] at hw
  obtain ⟨hw0, hw1, hw2, hw3, hw4, hw5, _⟩ := hw
  obtain ⟨⟨x0, hx0, hb0⟩, hk0⟩ := openP (T := 9) (t := .str) (va := false) (n := 9) (by decide +kernel) (by decide +kernel) (hval 0 _ v0 rfl rfl) h0 (fun k hk => by simpa using List.all_eq_true.1 hw0 k hk)
  obtain ⟨⟨x1, hx1, hb1⟩, hk1⟩ := openP (T := 22) (t := .sl 56 (.pair .str (.pair (.int .u64) (.pair (.int .i64) (.sl 8 (.int .i64)))))) (va := false) (n := 9) (by decide +kernel) (by decide +kernel) (hval 1 _ v1 rfl rfl) h1 (fun k hk => by simpa using List.all_eq_true.1 hw1 k hk)
  obtain ⟨⟨x2, hx2, hb2⟩, hk2⟩ := openP (T := 23) (t := .sl 16 .str) (va := false) (n := 9) (by decide +kernel) (by decide +kernel) (hval 2 _ v2 rfl rfl) h2 (fun k hk => by simpa using List.all_eq_true.1 hw2 k hk)
  obtain ⟨⟨x3, hx3, hb3⟩, hk3⟩ := openP (T := 24) (t := .sl 16 EvT) (va := false) (n := 9) (by decide +kernel) (by decide +kernel) (hval 3 _ v3 rfl rfl) h3 (fun k hk => by simpa using List.all_eq_true.1 hw3 k hk)
  obtain ⟨⟨x4, hx4, hb4⟩, hk4⟩ := openP (T := 3) (t := .int .i64) (va := false) (n := 9) (by decide +kernel) (by decide +kernel) (hval 4 _ v4 rfl rfl) h4 (fun k hk => by simpa using List.all_eq_true.1 hw4 k hk)
  obtain ⟨⟨x5, hx5, hb5⟩, hk5⟩ := openP (T := 22) (t := .sl 56 (.pair .str (.pair (.int .u64) (.pair (.int .i64) (.sl 8 (.int .i64)))))) (va := false) (n := 9) (by decide +kernel) (by decide +kernel) (hval 5 _ v5 rfl rfl) h5 (fun k hk => by simpa using List.all_eq_true.1 hw5 k hk)
  refine (calls_true s3 (svs := [.str x0, .sl true 56 LetT x1, .sl true 16 .str x2, .sl true 16 EvT x3, .int .i64 x4, .sl true 56 LetT x5]) ?_ ?_).mono fun e W' ⟨he, hk, hos, hout⟩ => ⟨_, he, ?_⟩
  · simp only [denL]
    exact ⟨v0, [v1, v2, v3, v4, v5], rfl, hx0, ⟨v1, [v2, v3, v4, v5], rfl, hx1, ⟨v2, [v3, v4, v5], rfl, hx2, ⟨v3, [v4, v5], rfl, hx3, ⟨v4, [v5], rfl, hx4, ⟨v5, [], rfl, hx5, rfl⟩⟩⟩⟩⟩⟩
  · exact rfl
  · refine post_law hW' rfl (rt := 4) (by kernel_rfl) (by kernel_rfl) rfl hk hos hout (fun sp hp => ?_)
    rw [Try.params3]
    have := trodAll_cons_mk (hk0 W' sp hk (fun p hp' => hp p (by simp [hp']))) (trodAll_cons_mk (hk1 W' sp hk (fun p hp' => hp p (by simp [hp']))) (trodAll_cons_mk (hk2 W' sp hk (fun p hp' => hp p (by simp [hp']))) (trodAll_cons_mk (hk3 W' sp hk (fun p hp' => hp p (by simp [hp']))) (trodAll_cons_mk (hk4 W' sp hk (fun p hp' => hp p (by simp [hp']))) (trodAll_cons_mk (hk5 W' sp hk (fun p hp' => hp p (by simp [hp']))) (trodAll_mk0))))))
    simpa only [List.append_nil, List.append_assoc] using this

theorem reads (os : Os) {H : Type} (enc : TypeId × Value → H) : ∃ places, DataW.whole enc Try.prog ((World.holding Try.prog os ⟨#[], #[], []⟩).forCall (fun _ _ => 0) ⟨#[], #[.string ByteArray.empty, .slice none 0 0, .slice none 0 0, .slice none 0 0, .int .i64 0, .slice none 0 0], []⟩).memory Try.f3.params.toList Rows.actorEncodesSpec.vars false (#[.string ByteArray.empty, .slice none 0 0, .slice none 0 0, .slice none 0 0, .int .i64 0, .slice none 0 0] : Array Value).toList 8 = some ([.lit (.string []), .nil, .nil, .nil, .lit (.int .i64 0), .nil], [], places) :=
  ⟨[], by kernel_rfl⟩

theorem lifted (os : Os) (started : os.Started) (H : Type) (enc : TypeId × Value → H) (F : Stop.Interp) :
    ReturnsInHanded {} Try.checked os 3 .any ((OpenSpec.ofChange Rows.actorEncodesSpec).preRow enc Try.prog Try.f3 Rows.actorEncodesRow.domain false Rows.actorEncodesRow.laid) (((OpenSpec.ofChange Rows.actorEncodesSpec).at F).post enc Try.prog Try.f3 false true false false) := by
  obtain ⟨places, hx⟩ := reads os enc
  refine returnsInHanded_of_row (C := Try.checked) (s := OpenSpec.ofChange Rows.actorEncodesSpec) own started (by kernel_rfl) Try.func3
    (witness_row_at (enc := enc) (C := Try.checked) false (World.holding Try.prog os ⟨#[], #[], []⟩) #[.string ByteArray.empty, .slice none 0 0, .slice none 0 0, .slice none 0 0, .int .i64 0, .slice none 0 0] rfl (by kernel_rfl) (by kernel_rfl) (by kernel_rfl)
      (OpenSpec.preRow_of_cond 8 hx (by kernel_rfl) (fun k hk => by cases hk) (by kernel_rfl) (laidMetH_nil _ _))) ?_
  intro W base args ds gs before hval hW _ _ hw _ _ _
  exact contract H enc W base args ds gs before hval hW hw

theorem said : Rows.ActorEncodesSaid :=
  OpenClaim.holds_of_cond 3 Try.f3 rfl rfl rfl rfl rfl rfl rfl ⟨rfl, rfl, rfl, rfl, rfl⟩ rfl rfl rfl rfl rfl (by kernel_rfl) Try.func3 (by kernel_rfl)
    (of_decide_eq_true (by kernel_rfl)) (by unfold Func.isWrapper; first | (rw [if_pos (by decide +kernel)]; kernel_rfl) | (rw [if_neg (by decide +kernel)]; exact ⟨rfl, rfl⟩))
    (fun os started H enc _ F => by rw [OpenClaim.pre_eq_preRow]; exact lifted os started H enc F)
end Go.Proofs.Ytbcmjkfdeikkhaa.encodes
