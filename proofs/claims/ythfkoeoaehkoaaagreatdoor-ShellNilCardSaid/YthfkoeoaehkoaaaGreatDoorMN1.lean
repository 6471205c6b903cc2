/- A part of the proof layer, or functions of the given program in it: contracts and their proofs. -/
import Derived.Test.YthfkoeoaehkoaaaGreatDoorVy
import Derived.Test.YthfkoeoaehkoaaaGreatDoorProg
import Derived.Test.YthfkoeoaehkoaaaGreatDoorMB0
import Derived.Lib.AppendIntMem
import Derived.Lib.ParseIntBTie
import Derived.WalkSmall
import Derived.Shelf.Small.Strs
import Derived.Shelf.Pu.ErrVarParseUint
import Derived.Ground.MpProg
import Derived.Shelf.Strconv.ErrVarParseInt
import Derived.Lib.AtoiErrMem
namespace Go.V
set_option linter.unusedSimpArgs false
set_option linter.unnecessarySimpa false
open Go.Proofs
def q (n : Nat) (o : AOp) : AOper := ⟨some n, o, none⟩
def qT (n : Nat) (o : AOp) (g : Nat) : AOper := ⟨some n, o, some (g, true)⟩
def qF (n : Nat) (o : AOp) (g : Nat) : AOper := ⟨some n, o, some (g, false)⟩
def q0 (n k : Nat) : AOper := ⟨some n, .mv (.t k), none⟩
def q1 (n k g : Nat) : AOper := ⟨some n, .mv (.t k), some (g, true)⟩
def q2 (n k g : Nat) : AOper := ⟨some n, .mv (.t k), some (g, false)⟩
def q3 (n i k : Nat) : AOper := ⟨some n, .fa i (.t k), none⟩
def q4 (n k : Nat) : AOper := ⟨some n, .ld (.t k), none⟩
def q5 (n k : Nat) : AOper := ⟨some n, .nck (.t k), none⟩
def q6 (n i k : Nat) : AOper := ⟨none, .st n (.t i) (.t k), none⟩
def qI (k : Int) : Opd := .c (.int .i64 k)
def qS (l : List AOper) (k : List Nat) (x : AS) : AS := .seq (.reg l k) x
def qC (t : Nat) (x y : AS) : AS := .seq (.cond (.t t) x .skip) y
def qX (f n : Nat) (l : List Opd) : AOper := ⟨some n, .call f [none] l, none⟩
def qD : Ty := .pair .str (.pair (.int .u64) (.pair (.int .i64) (.sl 8 (.int .i64))))
def qP : Ty := .pair (.int .i64) (.int .i64)
def qf : Opd := .c (.bool false)
def qt : Opd := .c (.bool true)
def qE : SV := .str ByteArray.empty
@[go_sem] theorem qD_d : qD = .pair .str (.pair (.int .u64) (.pair (.int .i64) (.sl 8 (.int .i64)))) := rt
@[go_sem] theorem qP_d : qP = .pair (.int .i64) (.int .i64) := rt
@[go_sem] theorem qf_d : qf = .c (.bool false) := rt
@[go_sem] theorem qt_d : qt = .c (.bool true) := rt
@[go_sem] theorem qE_d : qE = .str ByteArray.empty := rt
@[go_sem] theorem q_d {n o} : q n o = ⟨some n, o, none⟩ := rt
@[go_sem] theorem qT_d {n o g} : qT n o g = ⟨some n, o, some (g, true)⟩ := rt
@[go_sem] theorem qF_d {n o g} : qF n o g = ⟨some n, o, some (g, false)⟩ := rt
@[go_sem] theorem q0_d {n k} : q0 n k = ⟨some n, .mv (.t k), none⟩ := rt
@[go_sem] theorem q1_d {n k g} : q1 n k g = ⟨some n, .mv (.t k), some (g, true)⟩ := rt
@[go_sem] theorem q2_d {n k g} : q2 n k g = ⟨some n, .mv (.t k), some (g, false)⟩ := rt
@[go_sem] theorem q3_d {n i k} : q3 n i k = ⟨some n, .fa i (.t k), none⟩ := rt
@[go_sem] theorem q4_d {n k} : q4 n k = ⟨some n, .ld (.t k), none⟩ := rt
@[go_sem] theorem q5_d {n k} : q5 n k = ⟨some n, .nck (.t k), none⟩ := rt
@[go_sem] theorem q6_d {n i k} : q6 n i k = ⟨none, .st n (.t i) (.t k), none⟩ := rt
@[go_sem] theorem qI_d {k} : qI k = .c (.int .i64 k) := rt
@[go_sem] theorem qS_d {l k x} : qS l k x = .seq (.reg l k) x := rt
@[go_sem] theorem qC_d {t x y} : qC t x y = .seq (.cond (.t t) x .skip) y := rt
@[go_sem] theorem qX_d {f n l} : qX f n l = ⟨some n, .call f [none] l, none⟩ := rt
def a315 : AS := qS [q 2 (.mv (.c (.int .u64 0)))] [0] (qS [q 3 (.mv (.c (.int .u64 14695981039346656037)))] [0,3] (.seq (qS [q0 6 0, q 7 (.len .s (.t 6)), q 8 (.mv (qI 0))] [3,6,7,8] (.block 0 (.loop 1 [3,6,7,8] (qS [q 9 (.bin .lss (.t 8) (.t 7))]
 [3,6,7,8,9] (.seq (.cond (.t 9) .skip (.exit 0)) (.seq (.block 1 (qS [q 10 (.ia 1 (.t 6) (.t 8)), q4 11 10, q0 5 11] [3,5,6,7,8] (qS [q0 12 3, q0 13 5, q 14 (.cv .u64 (.t 13)), q 15 (.bin .xor (.t 12) (.t 14)), q0 3 15] [3,6,7,8] (.reg [q0
 16 3, q 17 (.bin .mul (.t 16) (.c (.int .u64 1099511628211))), q0 3 17] [3,6,7,8])))) (.reg [q 18 (.bin .add (.t 8) (qI 1)), q0 8 18] [3,6,7,8]))))))) (qS [q0 19 3, q0 2 19] [2] .ret)))
def r315 : List RT := [.t 2]
theorem ok315 : okF Tryz.prog 315 a315 r315 1 = true := by decide +kernel
end Go.V
namespace Go.V
open Go.Proofs Go.Shelf Go.RowKit
set_option maxRecDepth 100000
set_option linter.unusedSimpArgs false
set_option linter.unnecessarySimpa false
set_option linter.unusedVariables false
theorem Chg.below {w w' : World} (h : Below w.heap.size w w') : Chg w w' (fun _ => False) := ⟨h.os, h.tape, h.output, h.size, fun b hb _ => h.block b hb⟩
theorem Chg.drewN (w : World) (k : Nat) : Chg w (w.drewN k) (fun _ => False) := ⟨rfl, rfl, rfl, Nat.le_refl _, fun _ _ _ => rfl⟩
theorem sound_plain {P : Program} {f : FuncId} {C : Contract} (h : ∀ args hp K, C args hp K → ∀ (E : En) vs, Gl P E → denL E args vs → Calls P f vs.toArray E.w fun e w' => ∃ r v, e = .returned v ∧ Chg E.w w' (fun _ => False) ∧ K r hp ∧ ∀ E', den E' r v) : Sound P f C := by
 intro args hp K hC E vs hs hg hd
 refine (h args hp K hC E vs hg hd).mono ?_
 rintro e w' ⟨r, v, rfl, hc, hk, hr⟩
 obtain ⟨h1, h2⟩ := hs.same hc
 exact ⟨r, hp, { E with w := w' }, v, rfl, rfl, hk, h1, hr _, ⟨hc.os, hc.tape, hc.output, hc.size, fun b hb _ => hc.keep b hb (fun h => h), fun b hb => .inl hb, fun _ h => h, fun _ h => .inl h, rfl⟩, Id.refl _ _⟩
def bsOf (l : List UInt8) : ByteArray := ⟨l.toArray⟩
theorem bsOf_size (l : List UInt8) : (bsOf l).size = l.length := by show l.toArray.size = _; simp
def idxB (s : ByteArray) (c : Int) : Int := Lib.indexByte s.data.toList c.toNat.toUInt8
def C68 : Contract := fun args hp K => match args, hp with
 | [.str s, .int .u8 c], [] => inR .i64 (idxB s c) ∧ K (.int .i64 (idxB s c)) []
 | _, _ => False
theorem s68 : Sound Tryz.prog 68 C68 := by
 refine sound_plain ?_
 intro args hp K h E vs hg hd
 unfold C68 at h
 split at h
 ·rename_i s c
  simp only [denL, den] at hd
  obtain ⟨v, r, rfl, ⟨rfl, hs⟩, v2, r2, rfl, ⟨rfl, hc⟩, rfl⟩ := hd
  refine (Any.strings_IndexByte Tryz.idx s c E.w).mono ?_
  rintro e w' ⟨rfl, rfl⟩
  exact ⟨_, _, rfl, Chg.refl _ _, h.2, fun E' => by simp only [den]; exact ⟨rfl, h.1⟩⟩
 ·exact h.elim
theorem has_err : (Tryz.prog.globalNamed "strconv.ErrSyntax").isSome = true := by kernel_rfl
theorem gl_cell {n : String} {g : Nat} {E : En} (hg : Gl Tryz.prog E) (hn : n ∈ gnames) (h : Tryz.prog.globalNamed n = some g) : ∃ cs, E.w.var? Tryz.prog n = some cs ∧ gvOk n cs := (hg has_err n hn g h).2
theorem pow_tab {E : En} (hg : Gl Tryz.prog E) : Lib.TabIs Tryz.prog E.w "internal/strconv.uint64pow10" .u64 Lib.pow10Tab := by
 have hgn : Tryz.prog.globalNamed "internal/strconv.uint64pow10" = some 0 := by kernel_rfl
 obtain ⟨cs, hv, hgv⟩ := gl_cell hg (by simp [gnames]) hgn
 unfold Lib.TabIs
 rw [hv, hgv.2.2.2 rfl]
 simp [Lib.pow10Tab, Function.comp_def]
def itoaB (n : Int) : ByteArray := bsOf (Lib.itoa n)
def utoaB (n : Nat) : ByteArray := bsOf (Lib.decDigits n)
end Go.V
namespace Go.V
set_option linter.unusedSimpArgs false
set_option linter.unnecessarySimpa false
set_option linter.unusedVariables false
theorem index_one (c : UInt8) : ∀ l : List UInt8, Go.Lib.index l [c] = if l.contains c then ((l.takeWhile (· != c)).length : Int) else -1
 | [] => by simp [Go.Lib.index]
 | b :: l => by
  have ih := index_one c l
  simp only [Go.Lib.index, List.isPrefixOf, Bool.and_true]
  by_cases h : c = b
  ·subst h
   simp [List.takeWhile_cons]
  ·have h1 : (c == b) = false := by simpa using h
   have h2 : (b != c) = true := by simpa using fun e => h e.symm
   have h3 : (b == c) = false := by simpa using fun e => h e.symm
   rw [h1, ih]
   simp only [Bool.false_eq_true, if_false, List.contains_cons, h1, Bool.false_or, List.takeWhile_cons, h2, if_true, List.length_cons]
   cases hc : l.contains c
   ·simp
   ·have : ¬ (((l.takeWhile (· != c)).length : Int) = -1) := by omega
    simp [this]
/-! ### hexadecimal digits -/
def hexT : List UInt8 := [48, 49, 50, 51, 52, 53, 54, 55, 56, 57, 97, 98, 99, 100, 101, 102]
def hexC (c : UInt8) : List UInt8 := [hexT.getD (c.toNat / 16) 0, hexT.getD (c.toNat % 16) 0]
def hexL (l : List UInt8) : List UInt8 := l.flatMap hexC
def digV (c : UInt8) : Option Nat := if 48 ≤ c.toNat ∧ c.toNat ≤ 57 then some (c.toNat - 48) else if 97 ≤ c.toNat ∧ c.toNat ≤ 102 then some (c.toNat - 87) else none
def unhexL : List UInt8 → Option (List UInt8)
 | [] => some []
 | [_] => none
 | a :: b :: r => match digV a, digV b with
  | some x, some y => (unhexL r).map (UInt8.ofNat (16 * x + y) :: ·)
  | _, _ => none
theorem digV_idx : ∀ c : UInt8, Go.Lib.indexByte hexT c = match digV c with | some x => (x : Int) | none => -1 := by
 intro c
 have : ∀ n : Nat, n < 256 → Go.Lib.indexByte hexT (UInt8.ofNat n) = match digV (UInt8.ofNat n) with | some x => (x : Int) | none => -1 := by decide +kernel
 have := this c.toNat (UInt8.toNat_lt c)
 simpa using this
theorem digV_lt {c : UInt8} {x : Nat} (h : digV c = some x) : x < 16 := by
 unfold digV at h
 split at h
 ·cases h; omega
 ·split at h
  ·cases h; omega
  ·cases h
end Go.V
namespace Go.Proofs
set_option linter.unusedSimpArgs false
set_option linter.unnecessarySimpa false
open Go.Shelf
def Tryz.puns_ren : Go.Shelf.Ren := ⟨fun | 14 => 66 | 16 => 146 | 17 => 147 | 19 => 227 | 20 => 228 | 21 => 229 | 22 => 230 | 23 => 231 | 24 => 232 | 25 => 287 | 27 => 37 | 26 => 288 | 28 => 94 | 29 => 96 | 30 => 173 | 31 => 174 | 32 => 175 | 33 => 176 | 35 => 261 | 34 => 260 | 36 => 262 | 37 => 263 | 38 => 264 | 39 => 313 | 40 => 314 | n => n, fun | 9 => 9 | 3 => 3 | 22 => 24 | 24 => 134 | 25 => 135 | 4 => 4 | 34 => 368 | 5 => 5 | 36 => 144 | 37 => 89 | 0 => 0 | 39 => 370 | 21 => 21 | 44 => 421 | 47 => 259 | 50 => 461 | 48 => 459 | 2 => 2 | 52 => 295 | 55 => 298 | 59 => 400 | 60 => 310 | 20 => 20 | 61 => 401 | 65 => 484 | 66 => 485 | 67 => 61 | n => n, fun | 0 => 2 | 1 => 3 | 2 => 0 | 3 => 6 | 4 => 7 | n => n⟩
theorem Tryz.puns : Go.Proofs.LaysPu.n14 Tryz.prog Tryz.puns_ren := {
 mixed := by kernel_rfl
 f14 := Tryz.func66.trans (congrArg some (by kernel_rfl))
 f16 := Tryz.func146.trans (congrArg some (by kernel_rfl))
 f17 := Tryz.func147.trans (congrArg some (by kernel_rfl))
 f19 := Tryz.func227.trans (congrArg some (by kernel_rfl))
 f20 := Tryz.func228.trans (congrArg some (by kernel_rfl))
 f21 := Tryz.func229.trans (congrArg some (by kernel_rfl))
 f22 := Tryz.func230.trans (congrArg some (by kernel_rfl))
 f23 := Tryz.func231.trans (congrArg some (by kernel_rfl))
 f24 := Tryz.func232.trans (congrArg some (by kernel_rfl))
 f25 := Tryz.func287.trans (congrArg some (by kernel_rfl))
 f26 := Tryz.func288.trans (congrArg some (by kernel_rfl))
 f27 := Tryz.func37.trans (congrArg some (by kernel_rfl))
 f28 := Tryz.func94.trans (congrArg some (by kernel_rfl))
 f29 := Tryz.func96.trans (congrArg some (by kernel_rfl))
 f30 := Tryz.func173.trans (congrArg some (by kernel_rfl))
 f31 := Tryz.func174.trans (congrArg some (by kernel_rfl))
 f32 := Tryz.func175.trans (congrArg some (by kernel_rfl))
 f33 := Tryz.func176.trans (congrArg some (by kernel_rfl))
 f34 := Tryz.func260.trans (congrArg some (by kernel_rfl))
 f35 := Tryz.func261.trans (congrArg some (by kernel_rfl))
 f36 := Tryz.func262.trans (congrArg some (by kernel_rfl))
 f37 := Tryz.func263.trans (congrArg some (by kernel_rfl))
 f38 := Tryz.func264.trans (congrArg some (by kernel_rfl))
 f39 := Tryz.func313.trans (congrArg some (by kernel_rfl))
 f40 := Tryz.func314.trans (congrArg some (by kernel_rfl))
 t0 := Tryz.underlying0
 a0 := Tryz.isAgg0
 z0 := Tryz.sizeOf0
 v0 := Tryz.zeroValue0
 i0 := by kernel_rfl
 t2 := Tryz.underlying2
 a2 := Tryz.isAgg2
 z2 := Tryz.sizeOf2
 v2 := Tryz.zeroValue2
 i2 := by kernel_rfl
 t3 := Tryz.underlying3
 a3 := Tryz.isAgg3
 z3 := Tryz.sizeOf3
 v3 := Tryz.zeroValue3
 i3 := by kernel_rfl
 t4 := Tryz.underlying4
 a4 := Tryz.isAgg4
 z4 := Tryz.sizeOf4
 v4 := Tryz.zeroValue4
 i4 := by kernel_rfl
 t5 := Tryz.underlying5
 a5 := Tryz.isAgg5
 z5 := Tryz.sizeOf5
 v5 := Tryz.zeroValue5
 i5 := by kernel_rfl
 t9 := Tryz.underlying9
 a9 := Tryz.isAgg9
 z9 := Tryz.sizeOf9
 v9 := Tryz.zeroValue9
 i9 := by kernel_rfl
 t20 := Tryz.underlying20
 a20 := Tryz.isAgg20
 z20 := Tryz.sizeOf20
 v20 := Tryz.zeroValue20
 i20 := by kernel_rfl
 t21 := Tryz.underlying21
 a21 := Tryz.isAgg21
 z21 := Tryz.sizeOf21
 v21 := Tryz.zeroValue21
 i21 := by kernel_rfl
 t22 := Tryz.underlying24
 a22 := Tryz.isAgg24
 z22 := Tryz.sizeOf24
 v22 := Tryz.zeroValue24
 i22 := by kernel_rfl
 t24 := Tryz.underlying134
 a24 := Tryz.isAgg134
 z24 := Tryz.sizeOf134
 v24 := Tryz.zeroValue134
 i24 := by kernel_rfl
 t25 := Tryz.underlying135
 a25 := Tryz.isAgg135
 z25 := Tryz.sizeOf135
 v25 := Tryz.zeroValue135
 i25 := by kernel_rfl
 t34 := Tryz.underlying368
 a34 := Tryz.isAgg368
 z34 := Tryz.sizeOf368
 v34 := Tryz.zeroValue368
 i34 := by kernel_rfl
 c34 := by kernel_rfl
 t36 := Tryz.underlying144
 a36 := Tryz.isAgg144
 z36 := Tryz.sizeOf144
 v36 := Tryz.zeroValue144
 i36 := by kernel_rfl
 t37 := Tryz.underlying89
 a37 := Tryz.isAgg89
 z37 := Tryz.sizeOf89
 v37 := Tryz.zeroValue89
 i37 := by kernel_rfl
 t39 := Tryz.underlying370
 a39 := Tryz.isAgg370
 z39 := Tryz.sizeOf370
 v39 := Tryz.zeroValue370
 i39 := by kernel_rfl
 t44 := Tryz.underlying421
 a44 := Tryz.isAgg421
 z44 := Tryz.sizeOf421
 v44 := Tryz.zeroValue421
 i44 := by kernel_rfl
 t47 := Tryz.underlying259
 a47 := Tryz.isAgg259
 z47 := Tryz.sizeOf259
 v47 := Tryz.zeroValue259
 i47 := by kernel_rfl
 t48 := Tryz.underlying459
 a48 := Tryz.isAgg459
 z48 := Tryz.sizeOf459
 v48 := Tryz.zeroValue459
 i48 := by kernel_rfl
 t50 := Tryz.underlying461
 a50 := Tryz.isAgg461
 z50 := Tryz.sizeOf461
 v50 := Tryz.zeroValue461
 i50 := by kernel_rfl
 t52 := Tryz.underlying295
 a52 := Tryz.isAgg295
 z52 := Tryz.sizeOf295
 v52 := Tryz.zeroValue295
 i52 := by kernel_rfl
 t55 := Tryz.underlying298
 a55 := Tryz.isAgg298
 z55 := Tryz.sizeOf298
 v55 := Tryz.zeroValue298
 i55 := by kernel_rfl
 t59 := Tryz.underlying400
 a59 := Tryz.isAgg400
 z59 := Tryz.sizeOf400
 v59 := Tryz.zeroValue400
 i59 := by kernel_rfl
 t60 := Tryz.underlying310
 a60 := Tryz.isAgg310
 z60 := Tryz.sizeOf310
 v60 := Tryz.zeroValue310
 i60 := by kernel_rfl
 t61 := Tryz.underlying401
 a61 := Tryz.isAgg401
 z61 := Tryz.sizeOf401
 t65 := Tryz.underlying484
 a65 := Tryz.isAgg484
 z65 := Tryz.sizeOf484
 v65 := Tryz.zeroValue484
 i65 := by kernel_rfl
 t66 := Tryz.underlying485
 a66 := Tryz.isAgg485
 z66 := Tryz.sizeOf485
 v66 := Tryz.zeroValue485
 i66 := by kernel_rfl
 t67 := Tryz.underlying61
 a67 := Tryz.isAgg61
 z67 := Tryz.sizeOf61
 v67 := Tryz.zeroValue61
 i67 := by kernel_rfl
 g0 := by kernel_rfl
 m0 := by kernel_rfl
 g1 := by kernel_rfl
 m1 := by kernel_rfl
 g2 := by kernel_rfl
 m2 := by kernel_rfl
 g3 := by kernel_rfl
 m3 := by kernel_rfl
 g4 := by kernel_rfl
 m4 := by kernel_rfl }
end Go.Proofs
namespace Go.V
open Go.Proofs Go.Shelf Go.RowKit
set_option maxRecDepth 100000
set_option maxHeartbeats 2000000
set_option linter.unusedSimpArgs false
set_option linter.unnecessarySimpa false
set_option linter.unusedVariables false
theorem i64_min : IntKind.i64.min = -9223372036854775808 := by decide
theorem i64_max : IntKind.i64.max = 9223372036854775807 := by decide
def intP (s : ByteArray) : Option Int :=
 match Lib.parseIntB 64 s.data.toList with
 | .ok v => if itoaB v = s then some v else none
 | _ => none
theorem err_var {E : En} (hg : Gl Tryz.prog E) : (∃ tp p, E.w.var? Tryz.prog "strconv.ErrSyntax" = some #[.iface tp p]) ∧ (∃ tp p, E.w.var? Tryz.prog "strconv.ErrRange" = some #[.iface tp p]) := by
 have h1 : Tryz.prog.globalNamed "strconv.ErrSyntax" = some (Tryz.pars_ren.g 15) := Tryz.pars.m15
 have h2 : Tryz.prog.globalNamed "strconv.ErrRange" = some (Tryz.pars_ren.g 16) := Tryz.pars.m16
 obtain ⟨cs, hv, hgv⟩ := gl_cell hg (by simp [gnames]) h1
 obtain ⟨tp, p, rfl⟩ := hgv.1 rfl
 obtain ⟨cs, hv2, hgv2⟩ := gl_cell hg (by simp [gnames]) h2
 obtain ⟨tp2, p2, rfl⟩ := hgv2.2.1 rfl
 exact ⟨⟨tp, p, hv⟩, tp2, p2, hv2⟩
theorem int_bad (s : ByteArray) (w : World) (n : Int) (h : Calls Tryz.prog 67 #[.string s, .int .i64 10, .int .i64 64] w fun e w' => ∃ N t, e = .returned (.tuple #[.int .i64 n, .iface t (.pointer (some ⟨N, 0, none⟩))]) ∧ Below w.heap.size w w') :
  Calls Tryz.prog 29 #[.string s] w fun e w' => e = .returned (.tuple #[.int .i64 n, .bool false]) ∧ Below w.heap.size w w' := by
 go_enter Tryz.func29, Tryz.ntmps29
 go_wp2_with (go_at_call 67; refine h.mono ?_; rintro e w' ⟨N, t, rfl, hb⟩)
 go_wp2
 all_goals go_ret2
 all_goals exact ⟨rfl, hb⟩
theorem int_ok (s : ByteArray) (w : World) (v : Int) (h0 : -9223372036854775808 ≤ v) (h1 : v ≤ 9223372036854775807)
  (h : Calls Tryz.prog 67 #[.string s, .int .i64 10, .int .i64 64] w fun e w' => e = .returned (.tuple #[.int .i64 v, .nilIface]) ∧ Below w.heap.size w w' ∧ Lib.TabIs Tryz.prog w' "internal/strconv.uint64pow10" .u64 Lib.pow10Tab) :
  Calls Tryz.prog 29 #[.string s] w fun e w' => e = .returned (.tuple #[.int .i64 v, .bool (decide (itoaB v = s))]) ∧ Below w.heap.size w w' := by
 go_enter Tryz.func29, Tryz.ntmps29
 go_wp2_with (go_at_call 67; refine h.mono ?_; rintro e w' ⟨rfl, hb, ht⟩)
 go_wp2_with (go_at_call 39; refine (Any.strconv_FormatInt_10 Tryz.fmt v h0 h1 _ ht).mono ?_; rintro e w2 ⟨rfl, k, os, rfl⟩)
 go_wp2
 all_goals go_ret2
 have e : (Lib.itoa v == s.toList) = decide (itoaB v = s) := by
  have e1 : s.toList = s.data.toList := by first | rfl | exact Lib.toList_data s | simp
  rw [e1, Bool.eq_iff_iff, beq_iff_eq, decide_eq_true_eq]
  constructor
  ·intro h
   unfold itoaB bsOf
   rw [h]
  ·intro h
   rw [← h]
   simp [itoaB, bsOf]
 rw [← e]
 exact ⟨rfl, hb.trans (Lib.below_grow _ _ hb.size _ _)⟩
def C29 : Contract := fun args hp K => match args, hp with
 | [.str s], [] => s.size ≤ 281474976710656 ∧ ∀ n b, inR .i64 n → (b = true → intP s = some n) → (b = false → intP s = none) → K (.tup [.int .i64 n, .bool b]) []
 | _, _ => False
theorem s29 : Sound Tryz.prog 29 C29 := by
 refine sound_plain ?_
 intro args hp K h E vs hg hd
 unfold C29 at h
 split at h
 ·rename_i s
  obtain ⟨hs, h⟩ := h
  simp only [denL, den] at hd
  obtain ⟨v, r, rfl, ⟨rfl, _⟩, rfl⟩ := hd
  obtain ⟨⟨tp, p, e1⟩, tp2, p2, e2⟩ := err_var hg
  have fin : ∀ (n : Int) (b : Bool) w', inR .i64 n → (b = true → intP s = some n) → (b = false → intP s = none) → Below E.w.heap.size E.w w' →
    ∃ r v, Ending.returned (.tuple #[.int .i64 n, .bool b]) = .returned v ∧ Chg E.w w' (fun _ => False) ∧ K r [] ∧ ∀ E', den E' r v := by
   intro n b w' hn h1 h2 hb
   exact ⟨_, _, rfl, Chg.below hb, h n b hn h1 h2, fun E' => by simp only [den, denL]; exact ⟨_, rfl, _, _, rfl, ⟨rfl, hn⟩, _, _, rfl, rfl, rfl⟩⟩
  rcases hp : Lib.parseIntB 64 s.data.toList with v | _ | _
  ·
   have hb := Lib.parseIntB_bounds hp
   have e3 : ((2 ^ (64 - 1) : Nat) : Int) = 9223372036854775808 := by decide
   rw [e3] at hb
   refine (int_ok s E.w v hb.1 (by omega) ((Any.strconv_ParseInt_10_at64_ok Tryz.pars s (by omega) v hp E.w).mono ?_)).mono ?_
   ·rintro e w' ⟨rfl, rfl | ⟨t, rfl⟩⟩
    ·exact ⟨rfl, Below.refl _ _, pow_tab hg⟩
    ·exact ⟨rfl, Lib.bytesWorld_below _ _ _, Lib.bytesWorld_var _ _ _ (pow_tab hg)⟩
   ·rintro e w' ⟨rfl, hb2⟩
    have hin : inR .i64 v := by unfold inR; rw [i64_min, i64_max]; omega
    by_cases hv : itoaB v = s
    ·rw [decide_eq_true hv]
     exact fin v true w' hin (fun _ => by unfold intP; simp only [hp, hv, if_true]) (fun h => by cases h) hb2
    ·rw [decide_eq_false hv]
     exact fin v false w' hin (fun h => by cases h) (fun _ => by unfold intP; simp only [hp, hv, if_false]) hb2
  ·
   refine (int_bad s E.w 0 ((Any.strconv_ParseInt_10_at64_syntax_var Tryz.pars s hs hp tp p E.w e1).mono ?_)).mono ?_
   ·rintro e w' ⟨N, rfl, _, _, hb⟩
    exact ⟨N, _, rfl, hb⟩
   ·rintro e w' ⟨rfl, hb2⟩
    exact fin 0 false w' (by unfold inR; rw [i64_min, i64_max]; omega) (fun h => by cases h) (fun _ => by unfold intP; simp only [hp]) hb2
  ·
   have hin : inR .i64 (Lib.intSat 64 s.data.toList) := by
    unfold inR Lib.intSat
    rw [i64_min, i64_max]
    split <;> decide
   refine (int_bad s E.w (Lib.intSat 64 s.data.toList) ((Any.strconv_ParseInt_10_at64_range_var Tryz.pars s hs hp tp2 p2 E.w e2).mono ?_)).mono ?_
   ·rintro e w' ⟨N, rfl, _, _, hb⟩
    exact ⟨N, _, rfl, hb⟩
   ·rintro e w' ⟨rfl, hb2⟩
    exact fin _ false w' hin (fun h => by cases h) (fun _ => by unfold intP; simp only [hp]) hb2
 ·exact h.elim
/-! ### Number -/
theorem u64_min : IntKind.u64.min = 0 := by decide
theorem u64_max : IntKind.u64.max = 18446744073709551615 := by decide
def numP (s : ByteArray) : Option Nat :=
 match Lib.parseUintB 64 s.data.toList with
 | .ok v => if utoaB v = s then some v else none
 | _ => none
theorem num_bad (s : ByteArray) (w : World) (n : Int) (h : Calls Tryz.prog 66 #[.string s, .int .i64 10, .int .i64 64] w fun e w' => ∃ N t, e = .returned (.tuple #[.int .u64 n, .iface t (.pointer (some ⟨N, 0, none⟩))]) ∧ Below w.heap.size w w') :
  Calls Tryz.prog 28 #[.string s] w fun e w' => e = .returned (.tuple #[.int .u64 n, .bool false]) ∧ Below w.heap.size w w' := by
 go_enter Tryz.func28, Tryz.ntmps28
 go_wp2_with (go_at_call 66; refine h.mono ?_; rintro e w' ⟨N, t, rfl, hb⟩)
 go_wp2
 all_goals go_ret2
 all_goals exact ⟨rfl, hb⟩
theorem num_ok (s : ByteArray) (w : World) (v : Nat) (hv : v < 18446744073709551616)
  (h : Calls Tryz.prog 66 #[.string s, .int .i64 10, .int .i64 64] w fun e w' => e = .returned (.tuple #[.int .u64 v, .nilIface]) ∧ Below w.heap.size w w' ∧ Lib.TabIs Tryz.prog w' "internal/strconv.uint64pow10" .u64 Lib.pow10Tab) :
  Calls Tryz.prog 28 #[.string s] w fun e w' => e = .returned (.tuple #[.int .u64 v, .bool (decide (utoaB v = s))]) ∧ Below w.heap.size w w' := by
 go_enter Tryz.func28, Tryz.ntmps28
 go_wp2_with (go_at_call 66; refine h.mono ?_; rintro e w' ⟨rfl, hb, ht⟩)
 go_wp2_with (go_at_call 38; refine (formatUint38 v hv _ ht).mono ?_; rintro e w2 ⟨rfl, k, os, rfl⟩)
 go_wp2
 all_goals go_ret2
 have e : (Lib.decDigits v == s.toList) = decide (utoaB v = s) := by
  have e1 : s.toList = s.data.toList := by first | rfl | exact Lib.toList_data s | simp
  rw [e1, Bool.eq_iff_iff, beq_iff_eq, decide_eq_true_eq]
  constructor
  ·intro h
   unfold utoaB bsOf
   rw [h]
  ·intro h
   rw [← h]
   simp [utoaB, bsOf]
 rw [← e]
 exact ⟨rfl, hb.trans (Lib.below_grow _ _ hb.size _ _)⟩
def C28 : Contract := fun args hp K => match args, hp with
 | [.str s], [] => s.size ≤ 281474976710656 ∧ ∀ (n : Int) b, inR .u64 n → (b = true → ∃ v, numP s = some v ∧ n = v) → (b = false → numP s = none) → K (.tup [.int .u64 n, .bool b]) []
 | _, _ => False
theorem parseU_lt {s : List UInt8} {v : Nat} (h : Lib.parseUintB 64 s = .ok v) : v < 18446744073709551616 := by
 unfold Lib.parseUintB at h
 split at h
 ·cases h
 ·have := Lib.parseUintM_le (2 ^ 64 - 1) s 0 v (Nat.zero_le _) h
  omega
theorem s28 : Sound Tryz.prog 28 C28 := by
 refine sound_plain ?_
 intro args hp K h E vs hg hd
 unfold C28 at h
 split at h
 ·rename_i s
  obtain ⟨hs, h⟩ := h
  simp only [denL, den] at hd
  obtain ⟨v, r, rfl, ⟨rfl, _⟩, rfl⟩ := hd
  obtain ⟨⟨tp, p, e1⟩, tp2, p2, e2⟩ := err_var hg
  have fin : ∀ (n : Int) (b : Bool) w', inR .u64 n → (b = true → ∃ v, numP s = some v ∧ n = v) → (b = false → numP s = none) → Below E.w.heap.size E.w w' →
    ∃ r v, Ending.returned (.tuple #[.int .u64 n, .bool b]) = .returned v ∧ Chg E.w w' (fun _ => False) ∧ K r [] ∧ ∀ E', den E' r v := by
   intro n b w' hn h1 h2 hb
   exact ⟨_, _, rfl, Chg.below hb, h n b hn h1 h2, fun E' => by simp only [den, denL]; exact ⟨_, rfl, _, _, rfl, ⟨rfl, hn⟩, _, _, rfl, rfl, rfl⟩⟩
  rcases hp : Lib.parseUintB 64 s.data.toList with v | _ | _
  ·have hb := parseU_lt hp
   refine (num_ok s E.w v hb ((Any.strconv_ParseUint_10_at64_ok Tryz.puns s (by omega) v hp E.w).mono ?_)).mono ?_
   ·rintro e w' ⟨rfl, rfl | rfl⟩
    ·exact ⟨rfl, Below.refl _ _, pow_tab hg⟩
    ·exact ⟨rfl, Lib.bytesWorld_below _ _ _, Lib.bytesWorld_var _ _ _ (pow_tab hg)⟩
   ·rintro e w' ⟨rfl, hb2⟩
    have hin : inR .u64 v := by unfold inR; rw [u64_min, u64_max]; omega
    by_cases hv : utoaB v = s
    ·rw [decide_eq_true hv]
     exact fin v true w' hin (fun _ => ⟨v, by unfold numP; simp only [hp, hv, if_true], rfl⟩) (fun h => by cases h) hb2
    ·rw [decide_eq_false hv]
     exact fin v false w' hin (fun h => by cases h) (fun _ => by unfold numP; simp only [hp, hv, if_false]) hb2
  ·refine (num_bad s E.w 0 ((Any.strconv_ParseUint_10_at64_syntax_var Tryz.puns s hs hp tp p E.w e1).mono ?_)).mono ?_
   ·rintro e w' ⟨N, rfl, _, _, hb⟩
    exact ⟨N, _, rfl, hb⟩
   ·rintro e w' ⟨rfl, hb2⟩
    exact fin 0 false w' (by unfold inR; rw [u64_min, u64_max]; omega) (fun h => by cases h) (fun _ => by unfold numP; simp only [hp]) hb2
  ·refine (num_bad s E.w 18446744073709551615 ((Any.strconv_ParseUint_10_at64_range_var Tryz.puns s hs hp tp2 p2 E.w e2).mono ?_)).mono ?_
   ·rintro e w' ⟨N, rfl, _, _, hb⟩
    exact ⟨N, _, rfl, hb⟩
   ·rintro e w' ⟨rfl, hb2⟩
    exact fin _ false w' (by unfold inR; rw [u64_min, u64_max]; omega) (fun h => by cases h) (fun _ => by unfold numP; simp only [hp]) hb2
 ·exact h.elim
end Go.V
namespace Go.V
open Go.Lib (decDigits itoa parseIntB parseUintB parseUintM)
set_option linter.unusedSimpArgs false
set_option linter.unnecessarySimpa false
set_option linter.unusedVariables false
def natGo : List UInt8 → Nat → Option Nat
 | [], n => some n
 | c :: r, n => if 48 ≤ c.toNat ∧ c.toNat ≤ 57 then (if 18446744073709551615 < 10 * n + (c.toNat - 48) then none else natGo r (10 * n + (c.toNat - 48))) else none
def natF (l : List UInt8) : Option Nat := if l = [] ∨ (1 < l.length ∧ l.head? = some 48) then none else natGo l 0
def numI (l : List UInt8) : Option Int :=
 if l.head? = some 45 then (natF l.tail).bind fun n => if n = 0 ∨ 9223372036854775808 < n then none else some (-(n : Int))
 else (natF l).bind fun n => if 9223372036854775807 < n then none else some (n : Int)
theorem natGo_append : ∀ (l l' : List UInt8) (n : Nat), natGo (l ++ l') n = (natGo l n).bind (natGo l')
 | [], l', n => rfl
 | c :: r, l', n => by
  simp only [List.cons_append, natGo]
  split
  ·split
   ·rfl
   ·exact natGo_append r l' _
  ·rfl
theorem dec_small {u : Nat} (h : u < 10) : decDigits u = [UInt8.ofNat (48 + u)] := by rw [decDigits, dif_pos h]
theorem dec_big {u : Nat} (h : ¬ u < 10) : decDigits u = decDigits (u / 10) ++ [UInt8.ofNat (48 + u % 10)] := by rw [decDigits, dif_neg h]
theorem ofNat_dig {d : Nat} (h : d < 10) : (UInt8.ofNat (48 + d)).toNat = 48 + d := by
 rw [UInt8.toNat_ofNat']
 omega
theorem natGo_dec (u : Nat) : u ≤ 18446744073709551615 → natGo (decDigits u) 0 = some u := by
 induction u using Nat.strongRecOn with
 | ind u ih =>
  intro hu
  by_cases h : u < 10
  ·rw [dec_small h]
   simp only [natGo, ofNat_dig h]
   rw [if_pos (by omega), if_neg (by omega)]
   congr 1
   omega
  ·rw [dec_big h, natGo_append, ih (u / 10) (by omega) (by omega)]
   have hd : u % 10 < 10 := Nat.mod_lt _ (by decide)
   simp only [Option.bind_some, natGo, ofNat_dig hd]
   rw [if_pos (by omega), if_neg (by omega)]
   congr 1
   omega
theorem dec_head (u : Nat) : 0 < u → ∃ c r, decDigits u = c :: r ∧ c ≠ 48 ∧ c ≠ 45 := by
 induction u using Nat.strongRecOn with
 | ind u ih =>
  intro hu
  by_cases h : u < 10
  ·refine ⟨_, [], dec_small h, ?_, ?_⟩
   ·intro e
    have := congrArg UInt8.toNat e
    rw [ofNat_dig h] at this
    simp at this
    omega
   ·intro e
    have := congrArg UInt8.toNat e
    rw [ofNat_dig h] at this
    simp at this
    omega
  ·obtain ⟨c, r, e, h1, h2⟩ := ih (u / 10) (by omega) (by omega)
   exact ⟨c, r ++ [UInt8.ofNat (48 + u % 10)], by rw [dec_big h, e]; rfl, h1, h2⟩
theorem dec_zero : decDigits 0 = [48] := by rw [dec_small (by decide)]; rfl
theorem natF_dec {u : Nat} (hu : u ≤ 18446744073709551615) : natF (decDigits u) = some u := by
 unfold natF
 rw [if_neg, natGo_dec u hu]
 rcases Nat.eq_zero_or_pos u with rfl | h
 ·rw [dec_zero]; simp
 ·obtain ⟨c, r, e, h1, _⟩ := dec_head u h
  rw [e]
  simp [h1]
theorem dig_back {c : UInt8} (h : 48 ≤ c.toNat ∧ c.toNat ≤ 57) : UInt8.ofNat (48 + (c.toNat - 48)) = c := by
 rw [show 48 + (c.toNat - 48) = c.toNat by omega]
 simp
theorem dec_natGo : ∀ (l : List UInt8) (n m : Nat), 0 < n → natGo l n = some m → decDigits m = decDigits n ++ l
 | [], n, m, _, h => by cases h; simp
 | c :: r, n, m, hn, h => by
  simp only [natGo] at h
  split at h
  ·rename_i hc
   split at h
   ·cases h
   ·have ih := dec_natGo r _ m (by omega) h
    rw [ih, dec_big (by omega)]
    have e1 : (10 * n + (c.toNat - 48)) / 10 = n := by omega
    have e2 : (10 * n + (c.toNat - 48)) % 10 = c.toNat - 48 := by omega
    rw [e1, e2, dig_back hc]
    simp
  ·cases h
theorem dec_natF {l : List UInt8} {m : Nat} (h : natF l = some m) : decDigits m = l := by
 unfold natF at h
 split at h
 ·cases h
 ·rename_i hl
  cases l with
  | nil => simp at hl
  | cons c r =>
   simp only [natGo] at h
   split at h
   ·rename_i hc
    split at h
    ·cases h
    ·simp only [Nat.mul_zero, Nat.zero_add] at h
     by_cases hz : c.toNat - 48 = 0
     ·have hc48 : c = 48 := by
       have h1 := dig_back hc
       rw [hz] at h1
       exact h1.symm
      subst hc48
      have hr : r = [] := by
       cases r with
       | nil => rfl
       | cons x y => simp at hl
      subst hr
      rw [hz] at h
      cases h
      exact dec_zero
     ·rw [dec_natGo r _ m (by omega) h, dec_small (by omega), dig_back hc]
      rfl
   ·cases h
theorem natGo_le : ∀ (l : List UInt8) (n m : Nat), n ≤ 18446744073709551615 → natGo l n = some m → m ≤ 18446744073709551615
 | [], n, m, hn, h => by cases h; exact hn
 | c :: r, n, m, hn, h => by
  simp only [natGo] at h
  split at h
  ·split at h
   ·cases h
   ·exact natGo_le r _ m (by omega) h
  ·cases h
theorem parse_natGo : ∀ (l : List UInt8) (n m : Nat), natGo l n = some m → parseUintM (2 ^ 64 - 1) n l = .ok m
 | [], n, m, h => by cases h; rfl
 | c :: r, n, m, h => by
  simp only [natGo] at h
  split at h
  ·rename_i hc
   split at h
   ·cases h
   ·rename_i hlt
    simp only [parseUintM]
    rw [if_pos hc, if_neg (by omega), if_neg (by omega), Nat.mul_comm n 10]
    exact parse_natGo r _ m h
  ·cases h
theorem parse_natF {l : List UInt8} {m : Nat} (h : natF l = some m) : parseUintB 64 l = .ok m ∧ m ≤ 18446744073709551615 := by
 unfold natF at h
 split at h
 ·cases h
 ·rename_i hl
  have h0 : l ≠ [] := fun e => hl (.inl e)
  exact ⟨by unfold parseUintB; rw [if_neg h0]; exact parse_natGo l 0 m h, natGo_le l 0 m (by decide) h⟩
theorem numI_parse {l : List UInt8} {v : Int} (h : numI l = some v) : parseIntB 64 l = .ok v ∧ itoa v = l := by
 unfold numI at h
 split at h
 ·rename_i hh
  cases l with
  | nil => simp at hh
  | cons c r =>
   simp only [List.head?_cons, Option.some.injEq] at hh
   subst hh
   simp only [List.tail_cons] at h
   cases hn : natF r with
   | none => rw [hn] at h; cases h
   | some n =>
    rw [hn] at h
    simp only [Option.bind_some] at h
    split at h
    ·cases h
    ·rename_i hb
     cases h
     obtain ⟨h1, h2⟩ := parse_natF hn
     have e := dec_natF hn
     constructor
     ·rw [Go.Lib.parseIntB_minus, h1]
      simp only [Go.Lib.signedC]
      first
       | (rw [if_neg (by omega)]; done)
       | (rw [if_neg (by omega)])
       | (simp; omega)
     ·unfold itoa
      rw [if_pos (by omega)]
      have : (-(n : Int)).natAbs = n := by omega
      rw [this, e]
 ·rename_i hh
  cases hn : natF l with
  | none => rw [hn] at h; cases h
  | some n =>
   rw [hn] at h
   simp only [Option.bind_some] at h
   split at h
   ·cases h
   ·rename_i hb
    cases h
    obtain ⟨h1, h2⟩ := parse_natF hn
    have e := dec_natF hn
    have e43 : ∀ c r, l = c :: r → 48 ≤ c.toNat ∧ c.toNat ≤ 57 := by
     rintro c r rfl
     unfold natF at hn
     split at hn
     ·cases hn
     ·simp only [natGo] at hn
      split at hn
      ·rename_i hc; exact hc
      ·cases hn
    constructor
    ·cases l with
     | nil => unfold natF at hn; simp at hn
     | cons c r =>
      have hc := e43 c r rfl
      rw [Go.Lib.parseIntB_plain 64 c r (by omega) (by omega), h1]
      simp only [Go.Lib.signlessC]
      first
       | (rw [if_neg (by omega)]; done)
       | (rw [if_neg (by omega)])
       | (simp; omega)
    ·unfold itoa
     rw [if_neg (by omega)]
     have : ((n : Int)).toNat = n := by omega
     rw [this, e]
theorem parse_numI {l : List UInt8} {v : Int} (h1 : parseIntB 64 l = .ok v) (h2 : itoa v = l) : numI l = some v := by
 have hb := Go.Lib.parseIntB_bounds h1
 have e3 : ((2 ^ (64 - 1) : Nat) : Int) = 9223372036854775808 := by decide
 rw [e3] at hb
 unfold itoa at h2
 unfold numI
 split at h2
 ·rename_i hv
  subst h2
  rw [if_pos (by simp), List.tail_cons, natF_dec (by omega)]
  simp only [Option.bind_some]
  rw [if_neg (by omega)]
  congr 1
  omega
 ·rename_i hv
  have hh : ¬ l.head? = some 45 := by
   rw [← h2]
   rcases Nat.eq_zero_or_pos v.toNat with h | h
   ·rw [h, dec_zero]; decide
   ·obtain ⟨c, r, e, _, h4⟩ := dec_head _ h
    rw [e]
    simpa using h4
  rw [if_neg hh, ← h2, natF_dec (by omega)]
  simp only [Option.bind_some]
  rw [if_neg (by omega)]
  congr 1
  omega
theorem intP_numI (s : ByteArray) : intP s = numI s.data.toList := by
 unfold intP
 have hs : ∀ v, itoaB v = s ↔ itoa v = s.data.toList := by
  intro v
  constructor
  ·intro h; rw [← h]; simp [itoaB, bsOf]
  ·intro h; unfold itoaB bsOf; rw [h]
 cases hn : numI s.data.toList with
 | some v =>
  obtain ⟨h1, h2⟩ := numI_parse hn
  rw [h1]
  simp only [(hs v).2 h2, if_true]
 | none =>
  rcases hp : parseIntB 64 s.data.toList with v | _ | _
  ·
   simp only
   split
   ·rename_i h
    rw [parse_numI hp ((hs v).1 h)] at hn
    cases hn
   ·rfl
  ·rfl
  ·rfl
end Go.V
namespace Go.V
set_option linter.unusedSimpArgs false
set_option linter.unnecessarySimpa false
set_option linter.unusedVariables false
def splitL (c : UInt8) : List UInt8 → List (List UInt8)
 | [] => [[]]
 | x :: r => if x = c then [] :: splitL c r else match splitL c r with
  | [] => [[x]]
  | y :: ys => (x :: y) :: ys
theorem splitL_eq {c x : UInt8} {r : List UInt8} (h : x = c) : splitL c (x :: r) = [] :: splitL c r := by
 conv => lhs; unfold splitL
 rw [if_pos h]
theorem splitL_ne {c x : UInt8} {r y : List UInt8} {ys : List (List UInt8)} (h : ¬ x = c) (hr : splitL c r = y :: ys) : splitL c (x :: r) = (x :: y) :: ys := by
 conv => lhs; unfold splitL
 rw [if_neg h, hr]
theorem splitL_miss {c : UInt8} : ∀ {l : List UInt8}, l.contains c = false → splitL c l = [l]
 | [], _ => rfl
 | x :: r, h => by
  simp only [List.contains_cons, Bool.or_eq_false_iff] at h
  have hx : ¬ x = c := fun e => by subst e; simp at h
  exact splitL_ne hx (splitL_miss h.2)
theorem splitL_hit {c : UInt8} : ∀ {l : List UInt8}, l.contains c = true → splitL c l = l.takeWhile (· != c) :: splitL c ((l.dropWhile (· != c)).drop 1)
 | [], h => by simp at h
 | x :: r, h => by
  by_cases hx : x = c
  ·subst hx
   rw [splitL_eq rfl]
   simp
  ·have hb : (x != c) = true := by simpa using hx
   have hr : r.contains c = true := by
    simp only [List.contains_cons, Bool.or_eq_true, beq_iff_eq] at h
    rcases h with h | h
    ·exact absurd h.symm hx
    ·exact h
   rw [splitL_ne hx (splitL_hit hr), List.takeWhile_cons, List.dropWhile_cons, if_pos hb, if_pos hb]
theorem splitK_one (c : UInt8) : ∀ (f : Nat) (l : List UInt8), l.length + 1 ≤ f → Go.Lib.splitK [c] 0 (Go.Lib.countFrom [c] f l) l = splitL c l
 | 0, l, h => by omega
 | f + 1, l, h => by
  unfold Go.Lib.countFrom
  rw [index_one]
  cases hc : l.contains c
  ·simp only [Bool.false_eq_true, if_false]
   rw [splitL_miss hc]
   rfl
  ·have hne : ¬ ((((l.takeWhile (· != c)).length : Int)) == -1) = true := by simp
   simp only [if_true]
   rw [if_neg hne, Nat.add_comm 1, Go.Lib.splitK, index_one, hc]
   simp only [if_true]
   rw [if_neg hne, splitL_hit hc]
   have e : ((l.takeWhile (· != c)).length : Int).toNat = (l.takeWhile (· != c)).length := Int.toNat_natCast _
   rw [e]
   have h3 := List.takeWhile_append_dropWhile (p := (· != c)) (l := l)
   have h45 : ∀ a b : List UInt8, a ++ b = l → l.take a.length = a ∧ l.drop a.length = b := by
    rintro a b rfl
    simp
   obtain ⟨h4, h5⟩ := h45 _ _ h3
   have h6 : l.drop ((l.takeWhile (· != c)).length + [c].length) = (l.dropWhile (· != c)).drop 1 := by
    rw [← List.drop_drop, h5]; rfl
   rw [h6, Nat.add_zero, h4]
   have hlen : ((l.dropWhile (· != c)).drop 1).length + 1 ≤ f := by
    rw [← h6, List.length_drop]
    have : 0 < l.length := by
     cases l with
     | nil => simp at hc
     | cons _ _ => simp
    simp only [List.length_cons, List.length_nil]
    omega
   rw [splitK_one c f _ hlen]
theorem split_one (c : UInt8) (l : List UInt8) : Go.Lib.split l [c] = splitL c l := by
 unfold Go.Lib.split Go.Lib.count
 exact splitK_one c _ l (Nat.le_refl _)
theorem numP_natF (s : ByteArray) : numP s = natF s.data.toList := by
 unfold numP
 cases h : natF s.data.toList with
 | some m =>
  obtain ⟨h1, _⟩ := parse_natF h
  rw [h1]
  have e : utoaB m = s := by
   unfold utoaB
   rw [dec_natF h]
   cases s; simp [bsOf]
  simp only [e, if_true]
 | none =>
  split
  ·rename_i v hv
   split
   ·rename_i he
    exfalso
    have hlt := parseU_lt hv
    have : natF s.data.toList = some v := by
     rw [← he]
     have : (utoaB v).data.toList = Go.Lib.decDigits v := by simp [utoaB, bsOf]
     rw [this]
     exact natF_dec (by omega)
    rw [h] at this; cases this
   ·rfl
  ·rfl
end Go.V
namespace Go.V
open Go.Proofs Go.Shelf Go.RowKit
set_option maxRecDepth 100000
set_option maxHeartbeats 2000000
set_option linter.unusedSimpArgs false
set_option linter.unnecessarySimpa false
set_option linter.unusedVariables false
theorem Chg.setCell (w : World) (b o : Nat) (v : Value) : Chg w (w.setCell ⟨b, o, none⟩ v) (fun c => c = b) :=
 ⟨rfl, rfl, rfl, by simp [World.setCell], fun c _ hc => Below.heap_setCell w ⟨b, o, none⟩ v c hc⟩
theorem Chg.freeze (w : World) (b n : Nat) : Chg w (w.freeze ⟨b, 0, none⟩ n) (fun c => c = b) := by
 unfold World.freeze
 split
 ·exact Chg.refl _ _
 ·exact ⟨rfl, rfl, rfl, by simp, fun c _ hc => by
   show (w.heap.modify b _)[c]? = w.heap[c]?
   rw [Array.getElem?_modify]
   split
   ·rename_i h; exact absurd h.symm hc
   ·rfl⟩
theorem upd_struct {hp : List SB} {E : En} (h : HS hp E) {cells cells' : List SV} (hi : hp[0]? = some (.struct cells)) {w' : World} (hc : Chg E.w w' (fun b => (E.ρ 0).blk = some b)) (ho : SBok { E with w := w' } (E.ρ 0) (.struct cells')) :
  HS (hp.set 0 (.struct cells')) { E with w := w' } ∧ Ren E { E with w := w' } some ∧ Ev hp E (hp.set 0 (.struct cells')) { E with w := w' } ∧ Id hp.length E.ρ (hp.set 0 (.struct cells')) E.ρ := by
 have hown : ∀ b, (E.ρ 0).blk = some b → ((E.ρ 0).blk = some b ∨ E.w.heap.size ≤ b) ∧ b < w'.heap.size := fun b hb => ⟨.inl hb, Nat.lt_of_lt_of_le (h.own b ⟨0, _, hi, rfl, hb⟩).1 hc.size⟩
 have hb := h.upd (sb' := .struct cells') (f := some) (rv' := E.ρ 0) hi rfl (.inr ⟨rfl, rfl⟩) hc hown (by rw [upR_self]; exact ho) rfl
 rw [upR_self, map_ren_some] at hb
 have he := Ev.upd (sb' := .struct cells') (f := some) (rv' := E.ρ 0) hi rfl hc (fun b hb => (hown b hb).1)
 rw [upR_self, map_ren_some] at he
 refine ⟨hb.1, hb.2, he, by simp, fun i sb _ hsb => ?_⟩
 rw [List.getElem?_set] at hsb
 split at hsb
 ·split at hsb
  ·cases hsb; rfl
  ·cases hsb
 ·cases sb <;> first | rfl | trivial | (rename_i mv _ _ _; cases mv <;> first | rfl | trivial)
def C150 : Contract := fun args hp K => match args, hp with
 | [.pty 0 141], [.struct [.nilp, .nils]] => K (.tup []) [.struct [.ptr 0 0, .nils]]
 | [.pty 0 141], [.struct [.ptr 0 0, .own 1], .row mv eb t xs] => K (.tup []) [.struct [.ptr 0 0, .own 1], .row mv eb t xs]
 | _, _ => False
theorem s150 : Sound Tryz.prog 150 C150 := by
 intro args hp K h E vs hs hg hd
 unfold C150 at h
 split at h
 ·simp only [denL, den] at hd
  obtain ⟨v, r, rfl, ⟨hN, b, hb, rfl, hty⟩, rfl⟩ := hd
  obtain ⟨b', cur, T, fr, q1, q2, q3, q4⟩ := hs.ok 0 _ rfl
  rw [hb] at q1; cases q1
  obtain rfl := q3.2 141 hty
  rw [denC_cons rfl] at q4
  obtain ⟨v1, c2, q5, q6, q7⟩ := q4
  rw [denC_cons rfl] at q7
  obtain ⟨v2, c3, rfl, q8, q9⟩ := q7
  simp only [den, denC] at q6 q8 q9
  subst q6 q8 q9
  have hcur : cur = #[.pointer none, .slice none 0 0] := by apply Array.ext'; rw [q5]
  subst hcur
  refine (bld_fresh b E.w (by simp [World.cell?, q2]) (by simp [World.shape?, q2]) (frozen_nf q2 q3.1 (by decide))).mono ?_
  rintro e w' ⟨rfl, rfl⟩
  have hc : Chg E.w (E.w.setCell ⟨b, 0, none⟩ (.pointer (some ⟨b, 0, none⟩))) (fun c => (E.ρ 0).blk = some c) := (Chg.setCell _ _ _ _).mono (fun c hcb => by subst hcb; exact hb)
  have ho : SBok { E with w := E.w.setCell ⟨b, 0, none⟩ (.pointer (some ⟨b, 0, none⟩)) } (E.ρ 0) (.struct [.ptr 0 0, .nils]) := by
   refine ⟨b, #[.pointer (some ⟨b, 0, none⟩), .slice none 0 0], 141, fr, hb, ?_, q3, ?_⟩
   ·simp [World.setCell, Array.getElem?_modify, q2]
   ·rw [denC_cons rfl]
    refine ⟨_, _, rfl, ?_, ?_⟩
    ·simp only [den]; exact ⟨hN, b, hb, rfl⟩
    ·rw [denC_cons rfl]
     exact ⟨_, _, rfl, by simp only [den], by simp only [denC]⟩
  obtain ⟨h1, h2, h3, h4⟩ := upd_struct hs rfl hc ho
  exact ⟨_, _, _, _, rfl, rfl, h, h1, by simp only [den, denL]; exact ⟨_, rfl, rfl⟩, h3, h4⟩
 ·rename_i mv eb t xs
  simp only [denL, den] at hd
  obtain ⟨v, r, rfl, ⟨hN, b, hb, rfl, hty⟩, rfl⟩ := hd
  obtain ⟨b', cur, T, fr, q1, q2, q3, q4⟩ := hs.ok 0 _ rfl
  rw [hb] at q1; cases q1
  rw [denC_cons rfl] at q4
  obtain ⟨v1, c2, q5, q6, q7⟩ := q4
  simp only [den] at q6
  obtain ⟨_, b2, hb2, rfl⟩ := q6
  rw [hb] at hb2; cases hb2
  have hcell : E.w.cell? ⟨b, 0, none⟩ = some (.pointer (some ⟨b, 0, none⟩)) := by
   have : cur[0]? = some (.pointer (some ⟨b, 0, none⟩)) := by rw [← Array.getElem?_toList, q5]; rfl
   simp [World.cell?, q2, this]
  refine (bld_used b E.w hcell).mono ?_
  rintro e w' ⟨rfl, rfl⟩
  exact ⟨_, _, E, _, rfl, rfl, h, hs, by simp only [den, denL]; exact ⟨_, rfl, rfl⟩, Ev.refl _ _, Id.refl _ _⟩
 ·exact h.elim
theorem rdL_bytes {w : World} {F : Nat → Prop} : ∀ (l : List UInt8) (cs : List Value), rdL (rd w F .byte) l cs → cs = l.map fun x => Value.int .u8 x.toNat
 | [], cs, h => by simp only [rdL] at h; subst h; rfl
 | x :: l, cs, h => by
  obtain ⟨c1, c2, rfl, h1, h2⟩ := h
  simp only [rd] at h1
  subst h1
  rw [rdL_bytes l c2 h2]
  rfl
theorem freeze_idem {w : World} {g off n lo hi : Nat} {cur : Array Value} {T : Nat} (hg : w.heap[g]? = some (.cells cur T (lo, hi))) (h1 : lo ≤ off) (h2 : off + n ≤ hi) (h0 : n ≠ 0) : w.freeze ⟨g, off, none⟩ n = w := by
 obtain ⟨heap, tape, drawn, os, output⟩ := w
 unfold World.freeze
 rw [if_neg h0]
 congr 1
 apply Array.ext_getElem?
 intro c
 rw [Array.getElem?_modify]
 split
 ·rename_i hc
  subst hc
  simp only at hg
  rw [hg]
  have h3 : (lo == hi) = false := by simp; omega
  simp only [Option.map_some, h3, Bool.false_eq_true, if_false, Nat.min_eq_left h1, Nat.max_eq_left h2]
 ·rfl
def C70 : Contract := fun args hp K => match args, hp with
 | [.pty 0 141], [.struct [.nilp, .nils]] => K (.str ByteArray.empty) [.struct [.nilp, .nils]]
 | [.pty 0 141], [.struct [.ptr 0 0, .own 1], .row mv 1 .byte xs] => (xs ≠ [] ∧ (xs : List UInt8).length ≤ maxLen) ∧ K (.str (bsOf xs)) [.struct [.ptr 0 0, .slf xs], .gone]
 | [.pty 0 141], [.struct [.ptr 0 0, .slf xs]] => (xs ≠ [] ∧ (xs : List UInt8).length ≤ maxLen) ∧ K (.str (bsOf xs)) [.struct [.ptr 0 0, .slf xs]]
 | _, _ => False
theorem s70 : Sound Tryz.prog 70 C70 := by
 intro args hp K h E vs hs hg hd
 unfold C70 at h
 split at h
 ·simp only [denL, den] at hd
  obtain ⟨v, r, rfl, ⟨hN, b, hb, rfl, hty⟩, rfl⟩ := hd
  obtain ⟨b', cur, T, fr, q1, q2, q3, q4⟩ := hs.ok 0 _ rfl
  rw [hb] at q1; cases q1
  rw [denC_cons rfl] at q4
  obtain ⟨v1, c2, q5, q6, q7⟩ := q4
  rw [denC_cons rfl] at q7
  obtain ⟨v2, c3, rfl, q8, q9⟩ := q7
  simp only [den, denC] at q6 q8 q9
  subst q6 q8 q9
  have hcell : E.w.cell? ⟨b, 1, none⟩ = some (.slice none 0 0) := by
   have : cur[1]? = some (.slice none 0 0) := by rw [← Array.getElem?_toList, q5]; rfl
   simp [World.cell?, q2, this]
  refine (bld_str0 b E.w hcell).mono ?_
  rintro e w' ⟨rfl, rfl⟩
  have hc := Chg.drew E.w
  obtain ⟨h1, h2⟩ := hs.same hc
  exact ⟨_, _, { E with w := E.w.drew }, _, rfl, rfl, h, h1, by simp only [den]; exact ⟨rfl, by decide⟩, ⟨hc.os, hc.tape, hc.output, hc.size, fun b hb _ => hc.keep b hb (fun h => h), fun b hb => .inl hb, fun _ h => h, fun _ h => .inl h, rfl⟩, Id.refl _ _⟩
 ·rename_i mv xs
  obtain ⟨⟨hx0, hxl⟩, h⟩ := h
  simp only [denL, den] at hd
  obtain ⟨v, r, rfl, ⟨hN, b, hb, rfl, hty⟩, rfl⟩ := hd
  obtain ⟨b', cur, T, fr, q1, q2, q3, q4⟩ := hs.ok 0 _ rfl
  rw [hb] at q1; cases q1
  have q4' := q4
  rw [denC_cons rfl] at q4
  obtain ⟨v1, c2, q5, q6, q7⟩ := q4
  rw [denC_cons rfl] at q7
  obtain ⟨v2, c3, rfl, q8, q9⟩ := q7
  simp only [den, denC] at q6 q8 q9
  subst q9
  obtain ⟨_, b2, hb2, rfl⟩ := q6
  rw [hb] at hb2; cases hb2
  obtain ⟨hN1, rfl, _⟩ := q8
  rcases hs.ok 1 _ rfl with ⟨_, _, hz⟩ | ⟨g, off, cap, rcur, T', rfr, cs, r1, r2, r3, r4, r5, r6, r7, r8, r9, r10⟩
  ·exact absurd hz hx0
  ·obtain rfl := r4.2 rfl
   have hcs := rdL_bytes xs cs r10
   subst hcs
   simp only [Ty.size, Nat.mul_one] at r9
   have hcell : E.w.cell? ⟨b, 1, none⟩ = some (.slice (some ⟨g, off, none⟩) xs.length cap) := by
    have : cur[1]? = some (E.ρ 1).val := by rw [← Array.getElem?_toList, q5]; rfl
    simp [World.cell?, q2, this, r1]
   refine (bld_str1 b g off cap xs rcur rfr E.w hx0 hcell r3 r5 r6 r9).mono ?_
   rintro e w' ⟨rfl, rfl⟩
   have hgb : g ≠ b := by
    intro e
    subst e
    have := hs.dist 0 1 _ _ g rfl rfl rfl rfl hb r2
    cases this
   have hl0 : xs.length ≠ 0 := by simpa using hx0
   have hlive : ∀ c, Lv [.struct [.ptr 0 0, .own 1], .row mv 1 .byte xs] E c → c = b ∨ c = g := by
    rintro c ⟨i, sb, hi, _, hc⟩
    match i, hi with
    | 0, hi => cases hi; rw [hb] at hc; cases hc; exact .inl rfl
    | 1, hi => cases hi; rw [r2] at hc; cases hc; exact .inr rfl
   have hkeep : ∀ c, c ≠ g → (E.w.drew.freeze ⟨g, off, none⟩ xs.length).heap[c]? = E.w.heap[c]? := by
    intro c hc
    unfold World.freeze
    rw [if_neg hl0]
    show (E.w.heap.modify g _)[c]? = _
    rw [Array.getElem?_modify, if_neg (fun h => hc h.symm)]
   obtain ⟨lo, hi⟩ := rfr
   have hnew : ∃ lo' hi', (E.w.drew.freeze ⟨g, off, none⟩ xs.length).heap[g]? = some (.cells rcur 5 (lo', hi')) ∧ lo' ≤ off ∧ off + xs.length ≤ hi' := by
    unfold World.freeze
    rw [if_neg hl0]
    refine ⟨if lo == hi then off else min lo off, if lo == hi then off + xs.length else max hi (off + xs.length), ?_, ?_, ?_⟩
    ·show (E.w.heap.modify g _)[g]? = _
     rw [Array.getElem?_modify, if_pos rfl, r3]
     simp only [Option.map_some]
     by_cases hlh : (lo == hi) = true
     ·simp [hlh]
     ·simp [hlh]
    ·split <;> omega
    ·split <;> omega
   obtain ⟨lo', hi', n1, n2, n3⟩ := hnew
   have hsize : (E.w.drew.freeze ⟨g, off, none⟩ xs.length).heap.size = E.w.heap.size := by
    unfold World.freeze
    rw [if_neg hl0]
    show (E.w.heap.modify g _).size = E.w.heap.size
    rw [Array.size_modify]
   have hos : (E.w.drew.freeze ⟨g, off, none⟩ xs.length).os = E.w.os ∧ (E.w.drew.freeze ⟨g, off, none⟩ xs.length).tape = E.w.tape ∧ (E.w.drew.freeze ⟨g, off, none⟩ xs.length).output = E.w.output := by
    unfold World.freeze
    rw [if_neg hl0]
    exact ⟨rfl, rfl, rfl⟩
   generalize hw : E.w.drew.freeze ⟨g, off, none⟩ xs.length = W at *
   have hLg : Lv [.struct [.ptr 0 0, .own 1], .row mv 1 .byte xs] E g := ⟨1, _, rfl, rfl, r2⟩
   have hLb : Lv [.struct [.ptr 0 0, .own 1], .row mv 1 .byte xs] E b := ⟨0, _, rfl, rfl, hb⟩
   have hlv' : ∀ c, Lv [.struct [.ptr 0 0, .slf xs], .gone] { E with w := W, Fz := fun c => E.Fz c ∨ c = g } c → c = b := by
    rintro c ⟨i, sb, hi, hl, hc⟩
    match i, hi with
    | 0, hi => cases hi; rw [show (E.ρ 0).blk = some b from hb] at hc; cases hc; rfl
    | 1, hi => cases hi; simp [SB.live] at hl
   refine ⟨_, _, { E with w := W, Fz := fun c => E.Fz c ∨ c = g }, _, rfl, rfl, h, ⟨hs.n, ?_, ?_, ?_, ?_⟩, by simp only [den]; exact ⟨rfl, by rw [bsOf_size]; exact hxl⟩, ⟨hos.1, hos.2.1, hos.2.2, by rw [hsize]; exact Nat.le_refl _, ?_, ?_, fun _ h => .inl h, ?_, rfl⟩, ⟨Nat.le_refl _, ?_⟩⟩
   ·intro i sb hi
    match i, hi with
    | 0, hi =>
     cases hi
     refine ⟨b, cur, T, fr, hb, (hkeep b (fun h => hgb h.symm)).trans q2, q3, ?_⟩
     rw [q5, denC_cons rfl]
     refine ⟨_, _, rfl, by simp only [den]; exact ⟨hN, b, hb, rfl⟩, ?_⟩
     rw [denC_cons rfl]
     refine ⟨_, _, rfl, ?_, by simp only [denC]⟩
     simp only [den]
     exact ⟨g, cap, rcur, (lo', hi', off), r1, .inr rfl, n1, ⟨n2, n3⟩, r5, r6, r9⟩
    | 1, hi => cases hi; trivial
   ·intro i j si sj c hi hj hli hlj hci hcj
    match i, j, hi, hj with
    | 0, 0, _, _ => rfl
    | 1, _, hi, _ => cases hi; simp [SB.live] at hli
    | 0, 1, _, hj => cases hj; simp [SB.live] at hlj
   ·intro c hc
    obtain rfl := hlv' c hc
    have := hs.own c hLb
    refine ⟨by show c < W.heap.size; rw [hsize]; exact this.1, fun h => ?_, this.2.2⟩
    rcases h with h | h
    ·exact this.2.1 h
    ·exact hgb h.symm
   ·intro c hc
    show c < W.heap.size
    rw [hsize]
    rcases hc with (hc | hc) | hc
    ·exact hs.old c (.inl hc)
    ·subst hc; exact (hs.own _ hLg).1
    ·exact hs.old c (.inr hc)
   ·intro c hc hl
    exact hkeep c (fun e => hl (e ▸ hLg))
   ·intro c hc
    obtain rfl := hlv' c hc
    exact .inl hLb
   ·rintro c (hc | hc)
    ·exact .inl hc
    ·subst hc; exact .inr (.inl hLg)
   ·intro i sb hi hsb
    match i, hsb with
    | 0, hsb => cases hsb; rfl
    | 1, hsb => cases hsb; trivial
 ·rename_i xs
  obtain ⟨⟨hx0, hxl⟩, h⟩ := h
  simp only [denL, den] at hd
  obtain ⟨v, r, rfl, ⟨hN, b, hb, rfl, hty⟩, rfl⟩ := hd
  obtain ⟨b', cur, T, fr, q1, q2, q3, q4⟩ := hs.ok 0 _ rfl
  rw [hb] at q1; cases q1
  rw [denC_cons rfl] at q4
  obtain ⟨v1, c2, q5, q6, q7⟩ := q4
  rw [denC_cons rfl] at q7
  obtain ⟨v2, c3, rfl, q8, q9⟩ := q7
  simp only [den] at q8
  obtain ⟨g, cap, rcur, ⟨lo, hi, off⟩, rfl, r2, r3, ⟨r4, r5⟩, r6, r7, r9⟩ := q8
  have hcell : E.w.cell? ⟨b, 1, none⟩ = some (.slice (some ⟨g, off, none⟩) xs.length cap) := by
   have : cur[1]? = some (.slice (some ⟨g, off, none⟩) xs.length cap) := by rw [← Array.getElem?_toList, q5]; rfl
   simp [World.cell?, q2, this]
  refine (bld_str1 b g off cap xs rcur _ E.w hx0 hcell r3 r6 r7 r9).mono ?_
  rintro e w' ⟨rfl, rfl⟩
  have hl0 : xs.length ≠ 0 := by simpa using hx0
  have hw : E.w.drew.freeze ⟨g, off, none⟩ xs.length = E.w.drew := freeze_idem (w := E.w.drew) r3 r4 r5 hl0
  rw [hw]
  have hc := Chg.drew E.w
  obtain ⟨h1, h2⟩ := hs.same hc
  exact ⟨_, _, { E with w := E.w.drew }, _, rfl, rfl, h, h1, by simp only [den]; exact ⟨rfl, by rw [bsOf_size]; exact hxl⟩, ⟨hc.os, hc.tape, hc.output, hc.size, fun b hb _ => hc.keep b hb (fun h => h), fun b hb => .inl hb, fun _ h => h, fun _ h => .inl h, rfl⟩, Id.refl _ _⟩
 ·exact h.elim
end Go.V
