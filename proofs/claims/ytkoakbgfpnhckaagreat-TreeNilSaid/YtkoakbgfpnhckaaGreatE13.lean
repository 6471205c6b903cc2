/- TreeNil: of no pages there is no tree; a root that is none is refused; a nil tree has nothing -/
import Derived.Test.YtkoakbgfpnhckaaGreatE11
import Derived.Test.YtkoakbgfpnhckaaGreatE12
import Derived.Test.YtkoakbgfpnhckaaGreatVx
import Derived.Test.YtkoakbgfpnhckaaGreatRows
namespace Go.Proofs.YtkoakbgfpnhckaaGreat.nothing
set_option linter.unusedSimpArgs false
set_option linter.unnecessarySimpa false
open Go.ChangeShapes Go.WideShapes Go.ChangeAt Go.RowKit Go.V
set_option linter.unusedVariables false
set_option maxRecDepth 100000
theorem glz (W : World) : Gl Tryz.prog (E0 W) := by
 intro h
 have e : (Tryz.prog.globalNamed "strconv.ErrSyntax").isSome = false := by kernel_rfl
 rw [e] at h
 cases h
theorem own : ownKnob Tryz.prog.godebug = none := by kernel_rfl
theorem contract (H : Type) (enc : TypeId × Value → H) (W : World) (base : Nat) (args : Array Value) (ds gs : List (DataW H)) (before : List MemPlace)
  (hval : ∀ (j : Nat) t v, Tryz.f6.params[j]? = some t → args[j]? = some v → Value.okWide Tryz.prog W .any base t v)
  (hW : DataW.Whole enc Tryz.prog Tryz.f6.params.toList Rows.treeNilSpec.vars false W args.toList ds gs before)
  (hw : (DataW.weightsEach Tryz.prog (Tryz.f6.params.toList ++ (OpenSpec.ofChange Rows.treeNilSpec).bare.plain.varTypes Tryz.prog) (ds ++ gs)).all (· ≤ reachBytes) = true) :
  Calls Tryz.prog 6 args W fun e W' => ∃ v, e = .returned v ∧ Rows.treeNilSpec.post enc Tryz.prog Tryz.f6 false true false false W args v W' := by
 have hW' := hW
 obtain ⟨p, q, hA0, hV, rfl, hfz, hnd⟩ := hW
 have hA : DataW.TrodAll enc Tryz.prog W 0 (fun _ => true) true Tryz.f6.params.toList args.toList ds p := hA0
 obtain ⟨rfl, rfl⟩ := trodVars_none hV
 rw [Tryz.params6] at hA hval hw
 obtain ⟨v0, vs0, d0, ds0, p0, q0, hargs, rfl, rfl, h0, r0⟩ := trodAll_cons hA
 obtain ⟨v1, vs1, d1, ds1, p1, q1, rfl, rfl, rfl, h1, r1⟩ := trodAll_cons r0
 obtain ⟨v2, vs2, d2, ds2, p2, q2, rfl, rfl, rfl, h2, r2⟩ := trodAll_cons r1
 obtain ⟨rfl, rfl, rfl⟩ := trodAll_nil r2
 have hargs' : args = #[v0, v1, v2] := by cases args; simp_all
 subst hargs'
 clear hA0 hA
 simp only [List.cons_append, List.nil_append, DataW.weightsEach, List.append_nil, List.all_append, Bool.and_eq_true] at hw
 obtain ⟨hw0, hw1, hw2, _⟩ := hw
 obtain ⟨⟨x0, hx0, hb0, hr0⟩, hk0⟩ := openPr (T := 3) (t := .int .i64) (va := false) (n := 9) (by decide +kernel) (by decide +kernel) (hval 0 _ v0 rfl rfl) h0 (fun k hk => by simpa using List.all_eq_true.1 hw0 k hk)
 obtain ⟨⟨x1, hx1, hb1, hr1⟩, hk1⟩ := openPr (T := 9) (t := .str) (va := false) (n := 9) (by decide +kernel) (by decide +kernel) (hval 1 _ v1 rfl rfl) h1 (fun k hk => by simpa using List.all_eq_true.1 hw1 k hk)
 obtain ⟨⟨x2, hx2, hb2, hr2⟩, hk2⟩ := openPr (T := 22) (t := .sl 48 (.pair .str (.pair (.sl 1 .byte) .bool))) (va := false) (n := 9) (by decide +kernel) (by decide +kernel) (hval 2 _ v2 rfl rfl) h2 (fun k hk => by simpa using List.all_eq_true.1 hw2 k hk)
 refine (calls_true s6 (glz W) (svs := [.int .i64 x0, .str x1, .sl true 48 (.pair .str (.pair (.sl 1 .byte) .bool)) x2]) ?_ ?_).mono fun e W' ⟨he, hk, hos, hout⟩ => ⟨_, he, ?_⟩
 ·simp only [denL]
  exact ⟨v0, [v1, v2], rfl, hx0, ⟨v1, [v2], rfl, hx1, ⟨v2, [], rfl, hx2, rfl⟩⟩⟩
 ·exact rfl
 ·refine post_law hW' rfl (rt := 4) (by kernel_rfl) (by kernel_rfl) rfl hk hos hout (fun sp hp => ?_)
  rw [Tryz.params6]
  have := trodAll_cons_mk (hk0 W' sp hk (fun p hp' => hp p (by simp [hp']))) (trodAll_cons_mk (hk1 W' sp hk (fun p hp' => hp p (by simp [hp']))) (trodAll_cons_mk (hk2 W' sp hk (fun p hp' => hp p (by simp [hp']))) (trodAll_mk0)))
  simpa only [List.append_nil, List.append_assoc] using this
theorem reads (os : Os) {H : Type} (enc : TypeId × Value → H) : ∃ places, DataW.whole enc Tryz.prog ((World.holding Tryz.prog os ⟨#[], #[], []⟩).forCall (fun _ _ => 0) ⟨#[], #[.int .i64 0, .string .empty, .slice none 0 0], []⟩).memory Tryz.f6.params.toList Rows.treeNilSpec.vars false (#[.int .i64 0, .string .empty, .slice none 0 0] : Array Value).toList 8 = some ([.lit (.int .i64 0), .lit (.string []), .nil], [], places) :=
 ⟨[], by kernel_rfl⟩
theorem lifted (os : Os) (started : os.Started) (H : Type) (enc : TypeId × Value → H) (F : Stop.Interp) :
  ReturnsInHanded {} Tryz.checked os 6 .any ((OpenSpec.ofChange Rows.treeNilSpec).preRow enc Tryz.prog Tryz.f6 Rows.treeNilRow.domain false Rows.treeNilRow.laid) (((OpenSpec.ofChange Rows.treeNilSpec).at F).post enc Tryz.prog Tryz.f6 false true false false) := by
 obtain ⟨places, hx⟩ := reads os enc
 refine returnsInHanded_of_row (C := Tryz.checked) (s := OpenSpec.ofChange Rows.treeNilSpec) own started (by kernel_rfl) Tryz.func6
  (witness_row_at (enc := enc) (C := Tryz.checked) false (World.holding Tryz.prog os ⟨#[], #[], []⟩) #[.int .i64 0, .string .empty, .slice none 0 0] rfl (by kernel_rfl) (by kernel_rfl) (by kernel_rfl)
   (OpenSpec.preRow_of_cond 8 hx (by kernel_rfl) (fun k hk => by cases hk) (by kernel_rfl) (laidMetH_nil _ _))) ?_
 intro W base args ds gs before hval hW _ _ hw _ _ _
 exact contract H enc W base args ds gs before hval hW hw
theorem said : Rows.TreeNilSaid :=
 OpenClaim.holds_of_cond 6 Tryz.f6 rfl rfl rfl rfl rfl rfl rfl ⟨rfl, rfl, rfl, rfl, rfl⟩ rfl rfl rfl rfl rfl (by kernel_rfl) Tryz.func6 closed
  (of_decide_eq_true (by kernel_rfl)) (by unfold Func.isWrapper; first | (rw [if_pos (by decide +kernel)]; kernel_rfl) | (rw [if_neg (by decide +kernel)]; exact ⟨rfl, rfl⟩))
  (fun os started H enc _ F => by rw [OpenClaim.pre_eq_preRow]; exact lifted os started H enc F)
end Go.Proofs.YtkoakbgfpnhckaaGreat.nothing
