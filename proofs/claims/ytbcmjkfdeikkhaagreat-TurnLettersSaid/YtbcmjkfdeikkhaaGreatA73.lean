/- A part of the proof layer, or functions of the given program in it: contracts and their proofs. -/
import Derived.Test.YtbcmjkfdeikkhaaGreatA69
import Derived.Test.YtbcmjkfdeikkhaaGreatA72
namespace Go.V
open Go.Proofs
set_option maxRecDepth 100000
set_option maxHeartbeats 8000000
set_option linter.unusedSimpArgs false
set_option linter.unnecessarySimpa false
set_option linter.unusedVariables false
/-! ### turns of which the outcome is known -/
theorem takeK_done {S : ActS} {ls : List LastT.den} {names : List ByteArray} {code : List EvT.den} {now : Int} {K : SV → List SB → Prop} {f : ByteArray} {s k : Int} {xs : List Int} {r : List LetT.den} {X : Mc × Int} {p : List OutT.den × List LastT.den}
    (ok : takeOk S names code now) (hr : S.inb = (f, s, k, xs) :: r) (hX : X = runI 501 (startM names code f s k xs now (appE S.b S.ev))) (h0 : X.2 = 0) (hs : sendO S.o (S.l, ls) X.1.sent = some p)
    (hK : K (.tup [.agg [.bool true, .bool false, .int .i64 0, .int .i64 X.1.steps, .sl true 48 TimT X.1.tim], .int .i64 0]) (doneH S r X.1.ev p)) : TakeK S ls names code now K where
  bad := fun h => (h ok).elim
  none := fun _ h => by rw [hr] at h; cases h
  again := fun _ f' s' k' xs' r' hr' X' hX' h1 => by
    rw [hr] at hr'; cases hr'; rw [hX', ← hX] at h1; exact (h1 h0).elim
  full := fun _ f' s' k' xs' r' hr' X' hX' h1 => by
    rw [hr] at hr'; cases hr'; rw [hX', ← hX] at h1; exact (h1 h0).elim
  poison := fun _ f' s' k' xs' r' hr' X' hX' h1 => by
    rw [hr] at hr'; cases hr'; rw [hX', ← hX] at h1; exact (h1 h0).elim
  room := fun _ f' s' k' xs' r' hr' X' hX' h1 h2 => by
    rw [hr] at hr'; cases hr'; rw [hX', ← hX, hs] at h2; cases h2
  done := fun _ f' s' k' xs' r' hr' X' hX' h1 p' h2 => by
    rw [hr] at hr'; cases hr'; rw [hX', ← hX, hs] at h2; cases h2; rw [hX', ← hX]; exact hK
theorem goodA_new {k : ByteArray} (h : keyOk k = true) : GoodA (newS k) [] 1000 :=
  ⟨rfl, rfl, Nat.zero_le _, Nat.zero_le _, rfl, (Inv.new h).mono (by omega), Rel.nil⟩
theorem goodA_inb {S : ActS} {ls B} (h : GoodA S ls B) {inb : List LetT.den} (h8 : inb.length ≤ 8) (hf : inb.all fmL = true) : GoodA { S with inb := inb } ls B :=
  ⟨h.b8, h.ev, h.e16, h8, hf, h.inv, h.rel⟩

theorem c21_nil {S : ActS} {ls : List LastT.den} {B : Int} {code : List EvT.den} {now : Int} {K : SV → List SB → Prop} (g : GoodA S ls B) (h : TakeK S ls [] code now K) :
    C9 [.agg [.nils, .sl true 16 EvT code], .ptr 0 0, .int .i64 now] (acH false S) K := .inl ⟨rfl, .inl ⟨S, rfl, ls, B, g, h⟩⟩
theorem c21_sl {S : ActS} {ls : List LastT.den} {B : Int} {names : List ByteArray} {code : List EvT.den} {now : Int} {K : SV → List SB → Prop} (g : GoodA S ls B) (h : TakeK S ls names code now K) :
    C9 [.agg [.sl true 16 .str names, .sl true 16 EvT code], .ptr 0 0, .int .i64 now] (acH false S) K := .inr ⟨names, rfl, .inl ⟨S, rfl, ls, B, g, h⟩⟩
/-! ### awake -/
def awkC : List EvT.den := [(5, 0), (3, 0)]
def awkM : Mc := ⟨[], awkC, ByteArray.empty, 0, 4, [], 0, 2, [], [4, 0, 0, 0, 0, 0, 0, 0], [(0, 4)], [], [], 2, 0, false⟩
theorem awk_run : (awkM, (0 : Int)) = runI 501 (startM [] awkC ByteArray.empty 0 4 [] 0 (appE (List.replicate 8 0) [])) := rfl
def C6 : Contract := fun args hp K => args = [] ∧ hp = [] ∧ K (.bool true) []
theorem s6 : Sound Tryz.prog 6 C6 := by
  refine sound_of_okF ok6 (Γ := [(18, C18), (19, C19), (9, C9), (20, C20), (11, C11)]) (.cons s18 (callable_of_okF ok18) (.cons s19 (callable_of_okF ok19) (.cons s9 (callable_of_okF ok9) (.cons s20 (callable_of_okF ok20) (.cons s11 (callable_of_okF ok11) .nil))))) ?_
  intro args hp K h
  unfold C6 at h
  obtain ⟨rfl, rfl, h⟩ := h
  refine ⟨by simp, [], ?_⟩
  have hmx := maxLen_val
  simp (maxSteps := 2000000) only [a6, r6, C18, C19, inH, newS, acH, go_sem, eq_self, and_self, Int.natCast_pos, Int.le_refl, Nat.le_refl, Int.natCast_nonneg, Int.ofNat_lt, Int.ofNat_le, Int.reduceLT, Int.reduceLE, Int.reduceEq, Int.reduceNe, Int.reduceAdd, Int.reduceSub, Int.reduceMul, Int.reduceToNat, Int.reduceNeg, Nat.reduceEqDiff, Nat.reduceLeDiff, Nat.reduceSub, Nat.reduceMul, Nat.reduceLT, Nat.reduceBEq, Nat.reduceAdd]
  refine ⟨fun _ => ⟨fun h9 => absurd h9 (by decide), fun _ h9 => h9.elim, fun _ => ?_⟩, fun h9 => absurd h9 (by decide)⟩
  refine c21_nil (S := { (newS ⟨#[97]⟩) with inb := [(ByteArray.empty, 0, 4, [])] }) (goodA_inb (goodA_new rfl) (by simp) rfl) (takeK_done ⟨rfl, rfl, Int.le_refl 0⟩ rfl awk_run rfl rfl ?_)
  simp (maxSteps := 2000000) only [doneH, newS, C20, C11, jH, inH, jAdd, awkM, go_sem, eq_self, and_self, Int.natCast_pos, Int.le_refl, Nat.le_refl, Int.natCast_nonneg, Int.ofNat_lt, Int.ofNat_le, Int.reduceLT, Int.reduceLE, Int.reduceEq, Int.reduceNe, Int.reduceAdd, Int.reduceSub, Int.reduceMul, Int.reduceToNat, Int.reduceNeg, Nat.reduceEqDiff, Nat.reduceLeDiff, Nat.reduceSub, Nat.reduceMul, Nat.reduceLT, Nat.reduceBEq, Nat.reduceAdd]
  refine ⟨rfl, rfl, fun c hc => ?_⟩
  rw [show c = true from hc]
  refine sw_intro (fun _ => ?_) (fun h9 => by cases h9)
  rintro c rfl
  exact h
end Go.V
