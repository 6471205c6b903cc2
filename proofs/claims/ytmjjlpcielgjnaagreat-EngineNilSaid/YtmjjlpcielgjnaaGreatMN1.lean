/- A part of the proof layer, or functions of the given program in it: contracts and their proofs. -/
import Derived.Test.YtmjjlpcielgjnaaGreatVy
import Derived.Test.YtmjjlpcielgjnaaGreatProg
import Derived.Shelf.RegionOpenPlain
import Derived.WalkKit
import Derived.Laws.Externs
import Derived.Laws.LoneSync
namespace Go.V
set_option linter.unusedSimpArgs false
set_option linter.unnecessarySimpa false
open Go.Proofs
def q (n : Nat) (o : AOp) : AOper := ⟨some n, o, none⟩
def qT (n : Nat) (o : AOp) (g : Nat) : AOper := ⟨some n, o, some (g, true)⟩
def qF (n : Nat) (o : AOp) (g : Nat) : AOper := ⟨some n, o, some (g, false)⟩
def q0 (n k : Nat) : AOper := ⟨some n, .mv (.t k), none⟩
def q1 (n k g : Nat) : AOper := ⟨some n, .mv (.t k), some (g, true)⟩
def q2 (n k g : Nat) : AOper := ⟨some n, .mv (.t k), some (g, false)⟩
def q3 (n i k : Nat) : AOper := ⟨some n, .fa i (.t k), none⟩
def q4 (n k : Nat) : AOper := ⟨some n, .ld (.t k), none⟩
def q5 (n k : Nat) : AOper := ⟨some n, .nck (.t k), none⟩
def q6 (n i k : Nat) : AOper := ⟨none, .st n (.t i) (.t k), none⟩
def qI (k : Int) : Opd := .c (.int .i64 k)
def qS (l : List AOper) (k : List Nat) (x : AS) : AS := .seq (.reg l k) x
def qC (t : Nat) (x y : AS) : AS := .seq (.cond (.t t) x .skip) y
def qX (f n : Nat) (l : List Opd) : AOper := ⟨some n, .call f [none] l, none⟩
def qD : Ty := .pair .str (.pair (.int .u64) (.pair (.int .i64) (.sl 8 (.int .i64))))
def qP : Ty := .pair (.int .i64) (.int .i64)
def qf : Opd := .c (.bool false)
def qt : Opd := .c (.bool true)
def qE : SV := .str ByteArray.empty
@[go_sem] theorem qD_d : qD = .pair .str (.pair (.int .u64) (.pair (.int .i64) (.sl 8 (.int .i64)))) := rt
@[go_sem] theorem qP_d : qP = .pair (.int .i64) (.int .i64) := rt
@[go_sem] theorem qf_d : qf = .c (.bool false) := rt
@[go_sem] theorem qt_d : qt = .c (.bool true) := rt
@[go_sem] theorem qE_d : qE = .str ByteArray.empty := rt
@[go_sem] theorem q_d {n o} : q n o = ⟨some n, o, none⟩ := rt
@[go_sem] theorem qT_d {n o g} : qT n o g = ⟨some n, o, some (g, true)⟩ := rt
@[go_sem] theorem qF_d {n o g} : qF n o g = ⟨some n, o, some (g, false)⟩ := rt
@[go_sem] theorem q0_d {n k} : q0 n k = ⟨some n, .mv (.t k), none⟩ := rt
@[go_sem] theorem q1_d {n k g} : q1 n k g = ⟨some n, .mv (.t k), some (g, true)⟩ := rt
@[go_sem] theorem q2_d {n k g} : q2 n k g = ⟨some n, .mv (.t k), some (g, false)⟩ := rt
@[go_sem] theorem q3_d {n i k} : q3 n i k = ⟨some n, .fa i (.t k), none⟩ := rt
@[go_sem] theorem q4_d {n k} : q4 n k = ⟨some n, .ld (.t k), none⟩ := rt
@[go_sem] theorem q5_d {n k} : q5 n k = ⟨some n, .nck (.t k), none⟩ := rt
@[go_sem] theorem q6_d {n i k} : q6 n i k = ⟨none, .st n (.t i) (.t k), none⟩ := rt
@[go_sem] theorem qI_d {k} : qI k = .c (.int .i64 k) := rt
@[go_sem] theorem qS_d {l k x} : qS l k x = .seq (.reg l k) x := rt
@[go_sem] theorem qC_d {t x y} : qC t x y = .seq (.cond (.t t) x .skip) y := rt
@[go_sem] theorem qX_d {f n l} : qX f n l = ⟨some n, .call f [none] l, none⟩ := rt
def a257 : AS := qS [q 2 (.mv (.c (.int .u64 0)))] [0] (qS [q 3 (.mv (.c (.int .u64 14695981039346656037)))] [0,3] (.seq (qS [q0 6 0, q 7 (.len .s (.t 6)), q 8 (.mv (qI 0))] [3,6,7,8] (.block 0 (.loop 1 [3,6,7,8] (qS [q 9 (.bin .lss (.t 8) (.t 7))]
 [3,6,7,8,9] (.seq (.cond (.t 9) .skip (.exit 0)) (.seq (.block 1 (qS [q 10 (.ia 1 (.t 6) (.t 8)), q4 11 10, q0 5 11] [3,5,6,7,8] (qS [q0 12 3, q0 13 5, q 14 (.cv .u64 (.t 13)), q 15 (.bin .xor (.t 12) (.t 14)), q0 3 15] [3,6,7,8] (.reg [q0
 16 3, q 17 (.bin .mul (.t 16) (.c (.int .u64 1099511628211))), q0 3 17] [3,6,7,8])))) (.reg [q 18 (.bin .add (.t 8) (qI 1)), q0 8 18] [3,6,7,8]))))))) (qS [q0 19 3, q0 2 19] [2] .ret)))
def r257 : List RT := [.t 2]
theorem ok257 : okF Tryz.prog 257 a257 r257 1 = true := by decide +kernel
end Go.V
namespace Go.Proofs
set_option linter.unusedSimpArgs false
set_option linter.unnecessarySimpa false
open Go.Shelf Go.RowKit
set_option linter.unusedVariables false
set_option maxHeartbeats 1000000
set_option maxRecDepth 100000
theorem add136 (b off : Nat) (x n : Int) (w : World) (hc : w.cell? ⟨b, off, none⟩ = some (.int .u64 x)) (hz : w.frozen? ⟨b, off, none⟩ = false) :
  Calls Tryz.prog 136 #[.pointer (some ⟨b, off, none⟩), .int .u64 n] w fun e w' => e = .returned (.int .u64 (IntKind.u64.wrap (x + n))) ∧ w' = w.setCell ⟨b, off, none⟩ (.int .u64 (IntKind.u64.wrap (x + n))) := by
 have hadd := run_call_add (P := Tryz.prog) Tryz.func208 (by kernel_rfl) (by kernel_rfl) (by kernel_rfl) .u64 (by kernel_rfl) hc hz (y := n) (s := IntKind.u64.wrap (x + n)) (by simp [Op.intArith])
 go_enter Tryz.func136, Tryz.ntmps136
 go_wp2
 go_ret
 exact ⟨rfl, rfl⟩
theorem at135 (b : Nat) (w : World) : Calls Tryz.prog 135 #[.pointer (some ⟨b, 0, none⟩), .int .i64 0] w fun e w' => e = .returned (.pointer (some ⟨b, 0, none⟩)) ∧ w' = w := by
 go_enter Tryz.func135, Tryz.ntmps135
 go_wp2
 go_ret
 exact ⟨rfl, rfl⟩
theorem add70 (b : Nat) (x n : Int) (w : World) (hc : w.cell? ⟨b, 0, none⟩ = some (.int .u64 x)) (hz : w.frozen? ⟨b, 0, none⟩ = false) :
  Calls Tryz.prog 70 #[.pointer (some ⟨b, 0, none⟩), .int .i64 0, .int .u64 n] w fun e w' => e = .returned (.int .u64 (IntKind.u64.wrap (x + n))) ∧ w' = w.setCell ⟨b, 0, none⟩ (.int .u64 (IntKind.u64.wrap (x + n))) := by
 have h1 := at135 b w
 have h2 := add136 b 0 x n w hc hz
 go_enter Tryz.func70, Tryz.ntmps70
 go_wp2_with (first | (go_at_call 135; refine h1.mono ?_; rintro e w' ⟨rfl, rfl⟩) | (go_at_call 136; refine h2.mono ?_; rintro e w' ⟨rfl, rfl⟩))
 go_ret
 exact ⟨rfl, rfl⟩
end Go.Proofs
