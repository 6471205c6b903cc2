/- Without an engine a line is an error: ShellNil answers true for every line; the row and its tied card, with no condition of our own. -/
import Derived.Test.YthfkoeoaehkoaaaGreatDoorK4
import Derived.Test.YthfkoeoaehkoaaaGreatDoorKL
import Derived.Test.YthfkoeoaehkoaaaGreatDoorMT1
import Derived.Test.YthfkoeoaehkoaaaGreatDoorC1
import Derived.Test.YthfkoeoaehkoaaaGreatDoorVx
import Derived.Test.YthfkoeoaehkoaaaGreatDoorTie
import Derived.Test.YthfkoeoaehkoaaaGreatDoorCards
import Derived.Deep.DeepWitnessRowRef
import Derived.SevenTiedAt
namespace Go.Proofs.YthfkoeoaehkoaaaGreatDoor.nothing
set_option linter.unusedSimpArgs false
set_option linter.unnecessarySimpa false
open Go.ChangeShapes Go.WideShapes Go.ChangeAt Go.RowKit Go.V
set_option linter.unusedVariables false
set_option maxRecDepth 100000
theorem own : ownKnob Tryz.prog.godebug = none := by kernel_rfl
theorem contract (H : Type) (enc : TypeId × Value → H) (W : World) (base : Nat) (args : Array Value) (ds gs : List (DataW H)) (before : List MemPlace)
  (hval : ∀ (j : Nat) t v, Tryz.f4.params[j]? = some t → args[j]? = some v → Value.okWide Tryz.prog W .any base t v)
  (hW : DataW.Whole enc Tryz.prog Tryz.f4.params.toList Rows.shellNilSpec.vars false W args.toList ds gs before)
  (hl : laidMetH Tryz.prog Rows.shellNilRow.laid W) (hsh : W.ShapedOpen Tryz.prog)
  (hw : (DataW.weightsEach Tryz.prog (Tryz.f4.params.toList ++ (OpenSpec.ofChange Rows.shellNilSpec).bare.plain.varTypes Tryz.prog) (ds ++ gs)).all (· ≤ reachBytes) = true) :
  Calls Tryz.prog 4 args W fun e W' => ∃ v, e = .returned v ∧ Rows.shellNilSpec.post enc Tryz.prog Tryz.f4 false true false false W args v W' := by
 have hW' := hW
 obtain ⟨p, q, hA0, hV, rfl, hfz, hnd⟩ := hW
 have hA : DataW.TrodAll enc Tryz.prog W 0 (fun _ => true) true Tryz.f4.params.toList args.toList ds p := hA0
 obtain ⟨rfl, rfl⟩ := trodVars_none hV
 rw [Tryz.params4] at hA hval hw
 obtain ⟨v0, vs0, d0, ds0, p0, q0, hargs, rfl, rfl, h0, r0⟩ := trodAll_cons hA
 obtain ⟨rfl, rfl, rfl⟩ := trodAll_nil r0
 have hargs' : args = #[v0] := by cases args; simp_all
 subst hargs'
 clear hA0 hA
 simp only [List.cons_append, List.nil_append, DataW.weightsEach, List.append_nil, List.all_append, Bool.and_eq_true] at hw
 obtain ⟨hw0, _⟩ := hw
 obtain ⟨⟨x0, hx0, hb0⟩, hk0⟩ := openP (T := 9) (t := .str) (va := false) (n := 9) (by decide +kernel) (by decide +kernel) (hval 0 _ v0 rfl rfl) h0 (fun k hk => by simpa using List.all_eq_true.1 hw0 k hk)
 refine (calls_true s4 (gl_of_laid hl hsh) (svs := [.str x0]) ?_ ?_).mono fun e W' ⟨he, hk, hos, hout⟩ => ⟨_, he, ?_⟩
 ·simp only [denL]
  exact ⟨v0, [], rfl, hx0, rfl⟩
 ·rfl
 ·refine post_law hW' rfl (rt := 4) (by kernel_rfl) (by kernel_rfl) rfl hk hos hout (fun sp hp => ?_)
  rw [Tryz.params4]
  have := trodAll_cons_mk (hk0 W' sp hk (fun p hp' => hp p (by simp [hp']))) (trodAll_mk0)
  simpa only [List.append_nil, List.append_assoc] using this
theorem reads (os : Os) {H : Type} (enc : TypeId × Value → H) : ∃ places, DataW.whole enc Tryz.prog ((World.laidAll Tryz.prog os Rows.shellParsesRow.laid).forCall (fun _ _ => 0) ⟨#[], #[.string .empty], []⟩).memory Tryz.f4.params.toList Rows.shellNilSpec.vars false (#[.string .empty] : Array Value).toList 8 = some ([.lit (.string [])], [], places) :=
 ⟨[], by kernel_rfl⟩
theorem lifted (os : Os) (started : os.Started) (H : Type) (enc : TypeId × Value → H) (F : Stop.Interp) :
  ReturnsInHanded {} Tryz.checked os 4 .any ((OpenSpec.ofChange Rows.shellNilSpec).preRow enc Tryz.prog Tryz.f4 Rows.shellNilRow.domain false Rows.shellNilRow.laid) (((OpenSpec.ofChange Rows.shellNilSpec).at F).post enc Tryz.prog Tryz.f4 false true false false) := by
 obtain ⟨places, hx⟩ := reads os enc
 refine returnsInHanded_of_row (C := Tryz.checked) (s := OpenSpec.ofChange Rows.shellNilSpec) own started (by kernel_rfl) Tryz.func4
  (witness_row_atRef (enc := enc) (C := Tryz.checked) false (World.laidAll Tryz.prog os Rows.shellParsesRow.laid) #[.string .empty] (World.laidAll_os _ _ _) (by kernel_rfl) (by kernel_rfl) (by kernel_rfl)
   (OpenSpec.preRow_of_cond 8 hx (by kernel_rfl) (fun k hk => by cases hk) (by kernel_rfl) (door_met os _))) ?_
 intro W base args ds gs before hval hW _ _ hw hl hsh _
 exact contract H enc W base args ds gs before hval hW hl hsh hw
theorem said : Rows.ShellNilSaid :=
 OpenClaim.holds_of_cond 4 Tryz.f4 rfl rfl rfl rfl rfl rfl rfl ⟨rfl, rfl, rfl, rfl, rfl⟩ rfl rfl rfl rfl rfl (by kernel_rfl) Tryz.func4 closed
  (of_decide_eq_true (by kernel_rfl)) (by unfold Func.isWrapper; first | (rw [if_pos (by decide +kernel)]; kernel_rfl) | (rw [if_neg (by decide +kernel)]; exact ⟨rfl, rfl⟩))
  (fun os started H enc _ F => by rw [OpenClaim.pre_eq_preRow]; exact lifted os started H enc F)
theorem card_holds : Rows.ShellNilCardSaid :=
  Claim7.holds_tied_plain_at .later [] [.data, .data, .data, .data, .sentinel, .sentinel, .pinned] true (true, "fdbd7503069215aca646033b41418db05f8deeca0ca59d00e4d452c5404236a1") true
    said (fun _ h => by cases h) k1 (fun _ h => by cases h) shellNil_row_tie rfl ⟨rfl, rfl⟩ k2 rfl
    (fun f fn hf hfn => by
      obtain rfl : f = 4 := Option.some.inj (k5.symm.trans hf) |>.symm
      obtain rfl : fn = Tryz.f4 := (Option.some.inj (Tryz.func4.symm.trans hfn)).symm
      refine ⟨looks_all, fun j t ht => ?_⟩
      rw [Tryz.params4] at ht
      match j, ht with
      | 0, ht => obtain rfl : t = 9 := by simpa using ht.symm
                 exact (show Tryz.prog.wantsStandIn 9 = false by kernel_rfl)
      | n + 1, ht => exact absurd ht (by simp))
    k4
end Go.Proofs.YthfkoeoaehkoaaaGreatDoor.nothing
