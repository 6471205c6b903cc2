/- A part of the proof layer, or functions of the given program in it: contracts and their proofs. -/
import Derived.Test.YtbcmjkfdeikkhaaA73
namespace Go.V
open Go.Proofs
set_option maxRecDepth 100000
set_option maxHeartbeats 8000000
set_option linter.unusedSimpArgs false
set_option linter.unnecessarySimpa false
set_option linter.unusedVariables false
def kb : ByteArray := ⟨#[98]⟩
def kme : ByteArray := ⟨#[109, 101]⟩
def fullM (i : Nat) : List LastT.den := if i = 0 then [] else [(kb, (i : Int))]
def fullL (i : Nat) : List OutT.den := (List.range i).map fun j => (kb, kme, ((j + 1 : Nat) : Int), 0, [])
theorem fullL_length (i : Nat) : (fullL i).length = i := by unfold fullL; rw [List.length_map, List.length_range]
theorem fullL_succ (i : Nat) : fullL (i + 1) = fullL i ++ [(kb, kme, ((i + 1 : Nat) : Int), 0, [])] := by
  unfold fullL
  rw [List.range_succ, List.map_append]
  rfl
theorem fullM_look (i : Nat) : (lookM .str (.int .u64) (fullM i) kb).getD (0 : Int) = (i : Int) := by
  cases i with
  | zero => rfl
  | succ i => rfl
theorem fullM_upd (i : Nat) : updM .str (.int .u64) (fullM i) kb ((i + 1 : Nat) : Int) = fullM (i + 1) := by
  cases i with
  | zero => rfl
  | succ i => rfl
theorem fullM_set (i : Nat) : setF (fullM i) kb ((i + 1 : Nat) : Int) = fullM (i + 1) := by
  cases i with
  | zero => rfl
  | succ i =>
    rw [setF_eq]
    show setR [(kb, _)] kb _ = _
    unfold setR
    rw [if_neg (show ¬ ltS kb kb = true by decide), if_pos rfl]
    rfl
theorem fullM_length (i : Nat) : (fullM i).length ≤ 1 := by
  unfold fullM
  split
  · exact Nat.zero_le _
  · exact Nat.le_refl _
theorem full_inv : ∀ i : Nat, i ≤ 32 → Inv kme (fullL i) (fullM i) i ∧ Rel (fullM i) (fullM i)
  | 0, _ => ⟨Inv.new rfl, Rel.nil⟩
  | i + 1, h => by
    obtain ⟨h1, h2⟩ := full_inv i (by omega)
    have hl := fullL_length i
    have e := fullM_set i
    have hm := fullM_length (i + 1)
    have h3 := h2.set kb ((i + 1 : Nat) : Int)
    rw [fullM_upd, fullM_set] at h3
    refine ⟨?_, h3⟩
    have h4 := h1.send (by omega) (by omega) (to := kb) (xs := []) rfl (by simp) (by omega) (s := ((i + 1 : Nat) : Int)) (by rw [e]; omega) 0 (by
      rw [there_lookM h1.keys.srt, fullM_look, wu64 (by omega)]
      rfl)
    rw [e, ← fullL_succ] at h4
    exact h4
def fullX : SentT.den := (kb, 3, 4)
theorem full_send : ∀ (s n : Nat) (l : List OutT.den), l.length = n → n ≤ 32 → (n + s ≤ 32 → ∃ l', l'.length = n + s ∧ sendO kme (l, fullM n) (List.replicate s fullX) = some (l', fullM (n + s))) ∧ (¬ n + s ≤ 32 → sendO kme (l, fullM n) (List.replicate s fullX) = none)
  | 0, n, l, hl, hn => ⟨fun _ => ⟨l, hl, rfl⟩, fun h => (h hn).elim⟩
  | s + 1, n, l, hl, hn => by
    have hm := fullM_length n
    rw [List.replicate_succ]
    simp only [sendO]
    have hbad : sendBad (l, fullM n) fullX.1 ↔ 32 ≤ n := by
      unfold sendBad
      rw [← hl]
      constructor
      · rintro (h | h)
        · exact h
        · have h3 : 64 ≤ (fullM l.length).length := h.2
          rw [hl] at h3
          show 32 ≤ l.length
          omega
      · exact fun h => .inl h
    by_cases h : 32 ≤ n
    · rw [show sendS kme (l, fullM n) fullX = none from if_neg (fun hh => hh.2 (hbad.2 h))]
      exact ⟨fun h9 => by omega, fun _ => rfl⟩
    · have e : sendS kme (l, fullM n) fullX = some (l ++ [(kb, kme, sendW (fullM n) kb, 3, [4])], updM .str (.int .u64) (fullM n) kb (sendW (fullM n) kb)) := if_pos ⟨rfl, fun hh => h (hbad.1 hh)⟩
      have ew : sendW (fullM n) kb = ((n + 1 : Nat) : Int) := by
        unfold sendW
        rw [fullM_look, wu64 (by omega)]
        rfl
      rw [e, ew, fullM_upd]
      have ih := full_send s (n + 1) (l ++ [(kb, kme, ((n + 1 : Nat) : Int), 3, [4])]) (by rw [List.length_append, hl]; rfl) (by omega)
      rw [show n + (s + 1) = n + 1 + s by omega]
      exact ih
def fullC (j : Nat) : List EvT.den := (List.replicate j [(1, 3), (1, 4), (17, 0)]).flatten
theorem fullC_succ (j : Nat) : fullC (j + 1) = fullC j ++ [(1, 3), (1, 4), (17, 0)] := by
  unfold fullC
  rw [List.replicate_succ', List.flatten_append]
  rfl
theorem fullC_length (j : Nat) : (fullC j).length = 3 * j := by
  induction j with
  | zero => rfl
  | succ j ih => rw [fullC_succ, List.length_append, ih]; show 3 * j + 3 = _; omega
def fullR (s : Nat) : Mc × Int := runI 501 (startM [kb] (fullC s) ByteArray.empty 0 0 [] 0 (List.replicate 8 0))
theorem full_run {s : Nat} (h : s ≤ 4) : ((fullR s).2 = 0 ∧ (fullR s).1.sent = List.replicate s fullX) ∧ (fullR s).1.ev = [] ∧ formP [kb] (fullC s) = true := by
  obtain rfl | rfl | rfl | rfl | rfl : s = 0 ∨ s = 1 ∨ s = 2 ∨ s = 3 ∨ s = 4 := by omega
  all_goals exact ⟨⟨rfl, rfl⟩, rfl, rfl⟩
def fullS (i : Nat) : ActS := { (newS kme) with l := fullL i, m := fullM i }
theorem fullS_good {i : Nat} (h : i ≤ 32) : GoodA (fullS i) (fullM i) 1000 := ⟨rfl, rfl, Nat.zero_le _, Nat.zero_le _, rfl, (full_inv i h).1.mono (by omega), (full_inv i h).2⟩
def L7 (a b : Int) (w : Nat) : LoopAnn := { G := Nat, I := fun i => ⟨[(0, .int .u8 a), (1, .int .u8 b), (5, .ptr 0 0), (19, .int .u8 w), (20, .int .u8 i)], acH true (fullS i)⟩, R := fun _ i => i ≤ w, μ := fun i => w - i }
theorem L7_I {a b w} (i : Nat) : (L7 a b w).I i = ⟨[(0, .int .u8 a), (1, .int .u8 b), (5, .ptr 0 0), (19, .int .u8 w), (20, .int .u8 i)], acH true (fullS i)⟩ := rfl
def M7 (a b : Int) (w s : Nat) : LoopAnn := { G := Nat, I := fun i => ⟨[(0, .int .u8 a), (1, .int .u8 b), (5, .ptr 0 0), (7, .ptr 8 0), (31, .int .u8 s), (32, .int .u8 i)], acH true (fullS w) ++ [.struct [.own 9, .own 10], .row true 16 .str [kb], .row true 16 EvT (fullC i)]⟩, R := fun _ i => i ≤ s, μ := fun i => s - i }
theorem M7_I {a b w s} (i : Nat) : (M7 a b w s).I i = ⟨[(0, .int .u8 a), (1, .int .u8 b), (5, .ptr 0 0), (7, .ptr 8 0), (31, .int .u8 s), (32, .int .u8 i)], acH true (fullS w) ++ [.struct [.own 9, .own 10], .row true 16 .str [kb], .row true 16 EvT (fullC i)]⟩ := rfl
theorem tmodN {a : Int} (h : 0 ≤ a) (k : Nat) : a.tmod k = ((a.toNat % k : Nat) : Int) := by
  obtain ⟨n, rfl⟩ := Int.eq_ofNat_of_zero_le h
  rfl
/-- TurnFull -/
def C7 : Contract := fun args hp K => match args, hp with
  | [.int .u8 a, .int .u8 b], [] => K (.bool true) []
  | _, _ => False
theorem s7 : Sound Try.prog 7 C7 := by
  refine sound_of_okF ok7 (Γ := [(19, C19), (11, C11), (27, C27), (24, C24), (21, C21), (28, C28), (25, C25), (29, C29)]) (.cons s19 (callable_of_okF ok19) (.cons s11 (callable_of_okF ok11) (.cons s27 (callable_of_okF ok27) (.cons s24 (callable_of_okF ok24) (.cons s21 (callable_of_okF ok21) (.cons s28 (callable_of_okF ok28) (.cons s25 (callable_of_okF ok25) (.cons s29 (callable_of_okF ok29) .nil)))))))) ?_
  intro args hp K h
  unfold C7 at h
  split at h
  · rename_i a b
    refine ⟨by simp, [(1, L7 a b (a.toNat % 33)), (2, M7 a b (a.toNat % 33) (b.toNat % 5))], ?_⟩
    have hmx := maxLen_val
    simp (maxSteps := 2000000) only [a7, r7, C19, C11, newS, acH, go_sem, eq_self, and_self, Int.natCast_pos, Int.le_refl, Nat.le_refl, Int.natCast_nonneg, Int.ofNat_lt, Int.ofNat_le, Int.reduceLT, Int.reduceLE, Int.reduceEq, Int.reduceNe, Int.reduceAdd, Int.reduceSub, Int.reduceMul, Int.reduceToNat, Int.reduceNeg, Nat.reduceEqDiff, Nat.reduceLeDiff, Nat.reduceSub, Nat.reduceMul, Nat.reduceLT, Nat.reduceBEq, Nat.reduceAdd]
    refine ⟨fun _ => ?_, fun h9 => absurd h9 (by decide)⟩
    intro ha _ m hm
    rw [inR_u8] at ha
    have hm := hm.trans (tmodN ha.1 33)
    subst hm
    refine loop_intro (A := L7 a b (a.toNat % 33)) (0 : Nat) ?_ (Nat.zero_le _) ?_
    · simp (maxSteps := 2000000) only [L7_I, acH, fullS, newS, go_sem, eq_self, and_self, Int.natCast_pos, Int.le_refl, Nat.le_refl, Int.natCast_nonneg, Int.ofNat_lt, Int.ofNat_le, Int.reduceLT, Int.reduceLE, Int.reduceEq, Int.reduceNe, Int.reduceAdd, Int.reduceSub, Int.reduceMul, Int.reduceToNat, Int.reduceNeg, Nat.reduceEqDiff, Nat.reduceLeDiff, Nat.reduceSub, Nat.reduceMul, Nat.reduceLT, Nat.reduceBEq, Nat.reduceAdd]
      rfl
    · intro (i : Nat) (hi : i ≤ a.toNat % 33)
      have hl := fullL_length i
      have hml := fullM_length i
      simp (maxSteps := 2000000) only [L7_I, acH, C27, obH, go_sem, eq_self, and_self, Int.natCast_pos, Int.le_refl, Nat.le_refl, Int.natCast_nonneg, Int.ofNat_lt, Int.ofNat_le, Int.reduceLT, Int.reduceLE, Int.reduceEq, Int.reduceNe, Int.reduceAdd, Int.reduceSub, Int.reduceMul, Int.reduceToNat, Int.reduceNeg, Nat.reduceEqDiff, Nat.reduceLeDiff, Nat.reduceSub, Nat.reduceMul, Nat.reduceLT, Nat.reduceBEq, Nat.reduceAdd]
      rintro c rfl
      refine sw_intro (fun hc => ?_) (fun hc => ?_) <;> simp only [decide_eq_true_eq, decide_eq_false_iff_not] at hc
      · have ew : ∀ s : Int, s = IntKind.u64.wrap ((lookM .str (.int .u64) (fullM i) kb).getD (0 : Int) + 1) → s = ((i + 1 : Nat) : Int) := fun s hs => by
          rw [fullM_look, wu64 (by omega)] at hs
          exact hs
        refine ⟨show kme ≠ ByteArray.empty by decide, by show (fullM i).length < maxLen; omega, by show (fullL i).length ≤ 100; omega, fun h9 => absurd rfl h9, fun _ h9 => ?_, fun _ _ s hs => ?_⟩
        · rcases h9 with h9 | h9
          · replace h9 : 32 ≤ (fullL i).length := h9
            omega
          · have h8 : 64 ≤ (fullM i).length := h9.2
            omega
        · have hs := ew s hs
          subst hs
          rintro _ _ m hm
          rw [wu8 (by omega)] at hm
          subst hm
          refine lpE_intro (A := L7 a b (a.toNat % 33)) (i + 1 : Nat) ?_ (by show i + 1 ≤ a.toNat % 33; omega) (by show a.toNat % 33 - (i + 1) < a.toNat % 33 - i; omega)
          have e1 := fullL_succ i
          have e2 := fullM_upd i
          simp (maxSteps := 2000000) only [L7_I, acH, fullS, newS, e1, ← e2, go_sem, eq_self, and_self, Int.natCast_pos, Int.le_refl, Nat.le_refl, Int.natCast_nonneg, Int.ofNat_lt, Int.ofNat_le, Int.reduceLT, Int.reduceLE, Int.reduceEq, Int.reduceNe, Int.reduceAdd, Int.reduceSub, Int.reduceMul, Int.reduceToNat, Int.reduceNeg, Nat.reduceEqDiff, Nat.reduceLeDiff, Nat.reduceSub, Nat.reduceMul, Nat.reduceLT, Nat.reduceBEq, Nat.reduceAdd]
          rfl
      · intro hb _ m hm
        rw [inR_u8] at hb
        have hm := hm.trans (tmodN hb.1 5)
        subst hm
        have ei : i = a.toNat % 33 := by omega
        subst ei
        refine loop_intro (A := M7 a b (a.toNat % 33) (b.toNat % 5)) (0 : Nat) ?_ (Nat.zero_le _) ?_
        · simp (maxSteps := 2000000) only [M7_I, acH, fullS, newS, go_sem, eq_self, and_self, Int.natCast_pos, Int.le_refl, Nat.le_refl, Int.natCast_nonneg, Int.ofNat_lt, Int.ofNat_le, Int.reduceLT, Int.reduceLE, Int.reduceEq, Int.reduceNe, Int.reduceAdd, Int.reduceSub, Int.reduceMul, Int.reduceToNat, Int.reduceNeg, Nat.reduceEqDiff, Nat.reduceLeDiff, Nat.reduceSub, Nat.reduceMul, Nat.reduceLT, Nat.reduceBEq, Nat.reduceAdd]
          rfl
        · intro (j : Nat) (hj : j ≤ b.toNat % 5)
          simp (maxSteps := 2000000) only [M7_I, acH, fullS, newS, C24, inH, go_sem, eq_self, and_self, Int.natCast_pos, Int.le_refl, Nat.le_refl, Int.natCast_nonneg, Int.ofNat_lt, Int.ofNat_le, Int.reduceLT, Int.reduceLE, Int.reduceEq, Int.reduceNe, Int.reduceAdd, Int.reduceSub, Int.reduceMul, Int.reduceToNat, Int.reduceNeg, Nat.reduceEqDiff, Nat.reduceLeDiff, Nat.reduceSub, Nat.reduceMul, Nat.reduceLT, Nat.reduceBEq, Nat.reduceAdd]
          rintro c rfl
          refine sw_intro (fun hd => ?_) (fun hd => ?_) <;> simp only [decide_eq_true_eq, decide_eq_false_iff_not] at hd
          · have hcl := fullC_length j
            refine ⟨fun _ => by omega, fun _ => ?_⟩
            rintro _ _ m hm
            rw [wu8 (by omega)] at hm
            subst hm
            refine lpE_intro (A := M7 a b (a.toNat % 33) (b.toNat % 5)) (j + 1 : Nat) ?_ (by show j + 1 ≤ b.toNat % 5; omega) (by show b.toNat % 5 - (j + 1) < b.toNat % 5 - j; omega)
            have e1 := fullC_succ j
            simp (maxSteps := 2000000) only [M7_I, acH, fullS, newS, e1, go_sem, eq_self, and_self, Int.natCast_pos, Int.le_refl, Nat.le_refl, Int.natCast_nonneg, Int.ofNat_lt, Int.ofNat_le, Int.reduceLT, Int.reduceLE, Int.reduceEq, Int.reduceNe, Int.reduceAdd, Int.reduceSub, Int.reduceMul, Int.reduceToNat, Int.reduceNeg, Nat.reduceEqDiff, Nat.reduceLeDiff, Nat.reduceSub, Nat.reduceMul, Nat.reduceLT, Nat.reduceBEq, Nat.reduceAdd]
            rfl
          · have ej : j = b.toNat % 5 := by omega
            subst ej
            have hw : a.toNat % 33 ≤ 32 := by omega
            have hs4 : b.toNat % 5 ≤ 4 := by omega
            generalize ea : a.toNat % 33 = w at hw ⊢
            generalize eb : b.toNat % 5 = s at hs4 ⊢
            obtain ⟨⟨hr0, hrs⟩, hre, hform⟩ := full_run hs4
            refine ⟨fun h9 => absurd h9 (by decide), fun _ h9 => h9.elim, fun _ => ?_⟩
            have hg : GoodA { (fullS w) with inb := [(ByteArray.empty, 0, 0, [])] } (fullM w) 1000 := goodA_inb (fullS_good hw) (by simp) rfl
            have hok : takeOk { (fullS w) with inb := [(ByteArray.empty, 0, 0, [])] } [kb] (fullC s) 0 := ⟨rfl, hform, Int.le_refl 0⟩
            have hwl := fullL_length w
            have hwk := fullM_look w
            have hsd := full_send s w (fullL w) hwl hw
            have hml := fullM_length w
            by_cases hws : w + s ≤ 32
            · obtain ⟨l', hl', hse⟩ := hsd.1 hws
              rw [← hrs] at hse
              refine c21_sl (S := { (fullS w) with inb := [(ByteArray.empty, 0, 0, [])] }) hg (takeK_done hok rfl rfl hr0 hse ?_)
              simp (maxSteps := 2000000) only [doneH, fullS, newS, C28, C25, C29, obH, inH, hre, go_sem, eq_self, and_self, Int.natCast_pos, Int.le_refl, Nat.le_refl, Int.natCast_nonneg, Int.ofNat_lt, Int.ofNat_le, Int.reduceLT, Int.reduceLE, Int.reduceEq, Int.reduceNe, Int.reduceAdd, Int.reduceSub, Int.reduceMul, Int.reduceToNat, Int.reduceNeg, Nat.reduceEqDiff, Nat.reduceLeDiff, Nat.reduceSub, Nat.reduceMul, Nat.reduceLT, Nat.reduceBEq, Nat.reduceAdd]
              intro _ _ m hm
              have hm := hm.trans (tmodN ha.1 33)
              rw [ea] at hm
              subst hm
              intro _ m1 hm1
              rw [w64 (by omega)] at hm1
              subst hm1
              intro _ _ m hm
              have hm := hm.trans (tmodN hb.1 5)
              rw [eb] at hm
              subst hm
              intro _ m2 hm2
              rw [w64 (by omega)] at hm2
              subst hm2
              intro _ _ m hm c hc
              rw [w64 (by omega)] at hm
              subst hm
              rw [show c = false from hc.trans (decide_eq_false (by omega))]
              refine sw_intro (fun h9 => by cases h9) (fun _ => ⟨by decide, ?_⟩)
              intro _ _ m hm _ _ m3 hm3 c hc
              rw [w64 (by omega)] at hm3
              rw [show c = true from hc.trans (decide_eq_true (by omega))]
              refine sw_intro (fun _ => ?_) (fun h9 => by cases h9)
              intro c hc
              rw [show c = true from hc]
              refine sw_intro (fun _ => ⟨by decide, ?_⟩) (fun h9 => by cases h9)
              intro _ _ m hm _ m4 hm4 c hc
              rw [w64 (by omega)] at hm
              subst hm
              rw [wu64 (by omega)] at hm4
              subst hm4
              have e9 := fullM_look (w + s)
              rw [show c = true from hc.trans (decide_eq_true (e9.trans (Int.natCast_add w s)))]
              exact h
            · refine c21_sl (S := { (fullS w) with inb := [(ByteArray.empty, 0, 0, [])] }) hg (takeK_room hok rfl rfl hr0 (by rw [← hrs] at hsd; exact hsd.2 hws) ?_)
              simp (maxSteps := 2000000) only [acH, out0, fullS, newS, C28, C25, C29, obH, inH, go_sem, eq_self, and_self, Int.natCast_pos, Int.le_refl, Nat.le_refl, Int.natCast_nonneg, Int.ofNat_lt, Int.ofNat_le, Int.reduceLT, Int.reduceLE, Int.reduceEq, Int.reduceNe, Int.reduceAdd, Int.reduceSub, Int.reduceMul, Int.reduceToNat, Int.reduceNeg, Nat.reduceEqDiff, Nat.reduceLeDiff, Nat.reduceSub, Nat.reduceMul, Nat.reduceLT, Nat.reduceBEq, Nat.reduceAdd]
              intro _ _ m hm
              have hm := hm.trans (tmodN ha.1 33)
              rw [ea] at hm
              subst hm
              intro _ m1 hm1
              rw [w64 (by omega)] at hm1
              subst hm1
              intro _ _ m hm
              have hm := hm.trans (tmodN hb.1 5)
              rw [eb] at hm
              subst hm
              intro _ m2 hm2
              rw [w64 (by omega)] at hm2
              subst hm2
              intro _ _ m hm c hc
              rw [w64 (by omega)] at hm
              subst hm
              rw [show c = true from hc.trans (decide_eq_true (by omega))]
              refine sw_intro (fun _ => ⟨by decide, ?_⟩) (fun h9 => by cases h9)
              intro _ _ m hm c hc
              rw [show c = true from hc.trans (decide_eq_true (hm.trans (congrArg (Nat.cast (R := Int)) hwl)))]
              refine sw_intro (fun _ => ?_) (fun h9 => by cases h9)
              intro c hc
              rw [show c = true from hc]
              refine sw_intro (fun _ => ⟨by decide, ?_⟩) (fun h9 => by cases h9)
              intro _ m hm c hc
              rw [wu64 (by omega)] at hm
              subst hm
              rw [show c = true from hc.trans (decide_eq_true hwk)]
              exact h
  · exact h.elim
end Go.V
