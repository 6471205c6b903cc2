/- The law PagesPlay holds at every input: after every step of a script of puts, drops, new starts and cut writes the pages are alike with what the script kept; no condition. -/
import Derived.Test.YthnnbgaphjinnaaD20
import Derived.Test.YthnnbgaphjinnaaVx
import Derived.Test.YthnnbgaphjinnaaRows
namespace Go.Proofs.Ythnnbgaphjinnaa.play
set_option linter.unusedSimpArgs false
set_option linter.unnecessarySimpa false
open Go.ChangeShapes Go.WideShapes Go.ChangeAt Go.RowKit Go.V
set_option linter.unusedVariables false
set_option maxRecDepth 100000
theorem own : ownKnob Try.prog.godebug = none := by kernel_rfl

theorem contract (H : Type) (enc : TypeId × Value → H) (W : World) (base : Nat) (args : Array Value) (ds gs : List (DataW H)) (before : List MemPlace)
    (hval : ∀ (j : Nat) t v, Try.f8.params[j]? = some t → args[j]? = some v → Value.okWide Try.prog W .any base t v)
    (hW : DataW.Whole enc Try.prog Try.f8.params.toList Rows.pagesPlaySpec.vars false W args.toList ds gs before)
    (hw : (DataW.weightsEach Try.prog (Try.f8.params.toList ++ (OpenSpec.ofChange Rows.pagesPlaySpec).bare.plain.varTypes Try.prog) (ds ++ gs)).all (· ≤ reachBytes) = true) :
    Calls Try.prog 8 args W fun e W' => ∃ v, e = .returned v ∧ Rows.pagesPlaySpec.post enc Try.prog Try.f8 false true false false W args v W' := by
  have hW' := hW
  obtain ⟨p, q, hA0, hV, rfl, hfz, hnd⟩ := hW
  have hA : DataW.TrodAll enc Try.prog W 0 (fun _ => true) true Try.f8.params.toList args.toList ds p := hA0
  obtain ⟨rfl, rfl⟩ := trodVars_none hV
  rw [Try.params8] at hA hval hw
  obtain ⟨v0, vs0, d0, ds0, p0, q0, hargs, rfl, rfl, h0, r0⟩ := trodAll_cons hA
  obtain ⟨v1, vs1, d1, ds1, p1, q1, rfl, rfl, rfl, h1, r1⟩ := trodAll_cons r0
  obtain ⟨v2, vs2, d2, ds2, p2, q2, rfl, rfl, rfl, h2, r2⟩ := trodAll_cons r1
  obtain ⟨rfl, rfl, rfl⟩ := trodAll_nil r2
  have hargs' : args = #[v0, v1, v2] := by cases args; simp_all
  subst hargs'
  clear hA0 hA
  simp only [List.cons_append, List.nil_append, DataW.weightsEach, List.append_nil, List.all_append, Bool.and_eq_true] at hw
  obtain ⟨hw0, hw1, hw2, _⟩ := hw
  obtain ⟨⟨x0, hx0, hb0⟩, hk0⟩ := openP (T := 5) (t := .byte) (va := false) (n := 9) (by decide +kernel) (by decide +kernel) (hval 0 _ v0 rfl rfl) h0 (fun k hk => by simpa using List.all_eq_true.1 hw0 k hk)
  obtain ⟨⟨x1, hx1, hb1⟩, hk1⟩ := openP (T := 5) (t := .byte) (va := false) (n := 9) (by decide +kernel) (by decide +kernel) (hval 1 _ v1 rfl rfl) h1 (fun k hk => by simpa using List.all_eq_true.1 hw1 k hk)
  obtain ⟨⟨x2, hx2, hb2⟩, hk2⟩ := openP (T := 38) (t := .sl 40 (.pair (.int .i64) (.pair (.int .i64) (.sl 1 .byte)))) (va := false) (n := 9) (by decide +kernel) (by decide +kernel) (hval 2 _ v2 rfl rfl) h2 (fun k hk => by simpa using List.all_eq_true.1 hw2 k hk)
  refine (calls_true s8 (svs := [.int .u8 (UInt8.toNat x0), .int .u8 (UInt8.toNat x1), .sl true 40 (.pair (.int .i64) (.pair (.int .i64) (.sl 1 .byte))) x2]) ?_ ?_).mono fun e W' ⟨he, hk, hos, hout⟩ => ⟨_, he, ?_⟩
  · simp only [denL]
    exact ⟨v0, [v1, v2], rfl, hx0, ⟨v1, [v2], rfl, hx1, ⟨v2, [], rfl, hx2, rfl⟩⟩⟩
  · have := UInt8.toNat_lt x0; have := UInt8.toNat_lt x1; exact ⟨⟨by omega, by omega⟩, ⟨by omega, by omega⟩, rfl⟩
  · refine post_law hW' rfl (rt := 4) (by kernel_rfl) (by kernel_rfl) rfl hk hos hout (fun sp hp => ?_)
    rw [Try.params8]
    have := trodAll_cons_mk (hk0 W' sp hk (fun p hp' => hp p (by simp [hp']))) (trodAll_cons_mk (hk1 W' sp hk (fun p hp' => hp p (by simp [hp']))) (trodAll_cons_mk (hk2 W' sp hk (fun p hp' => hp p (by simp [hp']))) (trodAll_mk0)))
    simpa only [List.append_nil, List.append_assoc] using this

theorem reads (os : Os) {H : Type} (enc : TypeId × Value → H) : ∃ places, DataW.whole enc Try.prog ((World.holding Try.prog os ⟨#[], #[], []⟩).forCall (fun _ _ => 0) ⟨#[], #[.int .u8 0, .int .u8 0, .slice none 0 0], []⟩).memory Try.f8.params.toList Rows.pagesPlaySpec.vars false (#[.int .u8 0, .int .u8 0, .slice none 0 0] : Array Value).toList 8 = some ([.lit (.int .u8 0), .lit (.int .u8 0), .nil], [], places) :=
  ⟨[], by kernel_rfl⟩

theorem lifted (os : Os) (started : os.Started) (H : Type) (enc : TypeId × Value → H) (F : Stop.Interp) :
    ReturnsInHanded {} Try.checked os 8 .any ((OpenSpec.ofChange Rows.pagesPlaySpec).preRow enc Try.prog Try.f8 Rows.pagesPlayRow.domain false Rows.pagesPlayRow.laid) (((OpenSpec.ofChange Rows.pagesPlaySpec).at F).post enc Try.prog Try.f8 false true false false) := by
  obtain ⟨places, hx⟩ := reads os enc
  refine returnsInHanded_of_row (C := Try.checked) (s := OpenSpec.ofChange Rows.pagesPlaySpec) own started (by kernel_rfl) Try.func8
    (witness_row_at (enc := enc) (C := Try.checked) false (World.holding Try.prog os ⟨#[], #[], []⟩) #[.int .u8 0, .int .u8 0, .slice none 0 0] rfl (by kernel_rfl) (by kernel_rfl) (by kernel_rfl)
      (OpenSpec.preRow_of_cond 8 hx (by kernel_rfl) (fun k hk => by cases hk) (by kernel_rfl) (laidMetH_nil _ _))) ?_
  intro W base args ds gs before hval hW _ _ hw _ _ _
  exact contract H enc W base args ds gs before hval hW hw

theorem said : Rows.PagesPlaySaid :=
  OpenClaim.holds_of_cond 8 Try.f8 rfl rfl rfl rfl rfl rfl rfl ⟨rfl, rfl, rfl, rfl, rfl⟩ rfl rfl rfl rfl rfl (by kernel_rfl) Try.func8 (by kernel_rfl)
    (of_decide_eq_true (by kernel_rfl)) (by unfold Func.isWrapper; first | (rw [if_pos (by decide +kernel)]; kernel_rfl) | (rw [if_neg (by decide +kernel)]; exact ⟨rfl, rfl⟩))
    (fun os started H enc _ F => by rw [OpenClaim.pre_eq_preRow]; exact lifted os started H enc F)
end Go.Proofs.Ythnnbgaphjinnaa.play
