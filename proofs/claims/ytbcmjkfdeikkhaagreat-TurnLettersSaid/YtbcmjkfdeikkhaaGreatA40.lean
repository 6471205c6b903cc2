/- A part of the proof layer, or functions of the given program in it: contracts and their proofs. -/
import Derived.Test.YtbcmjkfdeikkhaaGreatA30
namespace Go.V
open Go.Proofs
set_option maxRecDepth 100000
set_option linter.unusedSimpArgs false
set_option linter.unnecessarySimpa false
set_option linter.unusedVariables false
/-! ### the journal -/
abbrev EvT : Ty := .pair (.int .i64) (.int .i64)
def jH (mv : Bool) (b : List Int) (ev : List EvT.den) (v : Int) : List SB := [.struct [.arr 8 (.int .i64) b, .own 1, .int .u64 v], .row mv 16 EvT ev]
def onJ (hp : List SB) (k : List Int → List EvT.den → Int → Prop) : Prop := ∃ b ev v, hp = jH false b ev v ∧ k b ev v
@[go_sem] theorem onJ_eq {b ev v k} : onJ [.struct [.arr 8 (.int .i64) (no_index b), .own 1, .int .u64 v], .row false 16 (.pair (.int .i64) (.int .i64)) (no_index ev)] k = k b ev v := by
  apply propext; constructor
  · rintro ⟨b', ev', v', h, hk⟩
    unfold jH at h
    cases h
    exact hk
  · exact fun h => ⟨b, ev, v, rfl, h⟩
theorem lt8_of {x : Int} (h : 7 < x) : ¬ x < 8 := by omega
theorem lt8_of2 {x : Int} (h : ¬ 7 < x) : x < 8 := by omega
theorem toNat_lt8 {x : Int} (h : 0 ≤ x ∧ x < 8) : x.toNat < 8 := by omega
@[go_sem] theorem flat_ev {p : Bool} : (p || Ty.flat (.pair (.int .i64) (.int .i64))) = true := by cases p <;> rfl
def okEv (e : EvT.den) : Bool := decide (0 ≤ e.1) && decide (e.1 < 8)
def appE (b : List Int) (ev : List EvT.den) : List Int := ev.foldl (fun b e => b.set e.1.toNat e.2) b
theorem appE_snoc (b : List Int) (ev : List EvT.den) (e : EvT.den) : appE b (ev ++ [e]) = (appE b ev).set e.1.toNat e.2 := by simp [appE]
theorem appE_length (b : List Int) (ev : List EvT.den) : (appE b ev).length = b.length := by
  induction ev generalizing b with
  | nil => rfl
  | cons e r ih => show (appE (b.set e.1.toNat e.2) r).length = _; rw [ih]; simp

def C72 : Contract := fun args hp K => match args, hp with
  | [], [] => K (.ptr 0 0) (jH true (List.replicate 8 0) [] 0)
  | _, _ => False
theorem s72 : Sound Tryz.prog 72 C72 := by
  refine sound_of_okF ok72 (Γ := []) .nil ?_
  intro args hp K h
  unfold C72 at h
  split at h
  · refine ⟨by simp, [], ?_⟩
    unfold jH at h
    simp (maxSteps := 2000000) only [a72, r72, go_sem, eq_self, and_self, Int.natCast_pos, Int.le_refl, Nat.le_refl, Int.natCast_nonneg, Int.ofNat_lt, Int.ofNat_le, Int.reduceLT, Int.reduceLE, Int.reduceEq, Int.reduceNe, Int.reduceAdd, Int.reduceSub, Int.reduceMul, Int.reduceToNat, Int.reduceNeg, Nat.reduceEqDiff, Nat.reduceLeDiff, Nat.reduceSub, Nat.reduceMul, Nat.reduceLT, Nat.reduceBEq, Nat.reduceAdd]
    exact h
  · exact h.elim
/-- Clone of events -/
def C114 : Contract := fun args hp K => match args, hp with
  | [.vw 0 a b 2], [.row false 16 (.pair (.int .i64) (.int .i64)) xs] => K (.own 1) [.row false 16 EvT xs, .row true 16 EvT ((xs.drop a).take (b - a))]
  | _, _ => False
theorem s114 : Sound Tryz.prog 114 C114 := by
  refine sound_of_okF ok114 (Γ := []) .nil ?_
  intro args hp K h
  unfold C114 at h
  split at h
  · rename_i a b xs
    refine ⟨by simp, [], ?_⟩
    simp (maxSteps := 2000000) only [a114, r114, go_sem, eq_self, and_self, Int.natCast_pos, Int.le_refl, Nat.le_refl, Int.natCast_nonneg, Int.ofNat_lt, Int.ofNat_le, Int.reduceLT, Int.reduceLE, Int.reduceEq, Int.reduceNe, Int.reduceAdd, Int.reduceSub, Int.reduceMul, Int.reduceToNat, Int.reduceNeg, Nat.reduceEqDiff, Nat.reduceLeDiff, Nat.reduceSub, Nat.reduceMul, Nat.reduceLT, Nat.reduceBEq, Nat.reduceAdd]
    intro c hc
    refine sw_intro (fun hb => ?_) (fun _ => ⟨id, fun _ => h⟩)
    rw [hc hb] at h
    exact h
  · exact h.elim
/-- .. is an event's register none? -/
def C86 : Contract := fun args hp K => match args, hp with
  | [.agg [.int .i64 r, .int .i64 v]], [] => K (.bool (!okEv (r, v))) []
  | _, _ => False
theorem s86 : Sound Tryz.prog 86 C86 := by
  refine sound_of_okF ok86 (Γ := []) .nil ?_
  intro args hp K h
  unfold C86 at h
  split at h
  · rename_i r v
    refine ⟨by simp, [], ?_⟩
    simp (maxSteps := 2000000) only [a86, r86, go_sem, eq_self, and_self, Int.natCast_pos, Int.le_refl, Nat.le_refl, Int.natCast_nonneg, Int.ofNat_lt, Int.ofNat_le, Int.reduceLT, Int.reduceLE, Int.reduceEq, Int.reduceNe, Int.reduceAdd, Int.reduceSub, Int.reduceMul, Int.reduceToNat, Int.reduceNeg, Nat.reduceEqDiff, Nat.reduceLeDiff, Nat.reduceSub, Nat.reduceMul, Nat.reduceLT, Nat.reduceBEq, Nat.reduceAdd]
    unfold okEv at h
    rintro c rfl
    refine sw_intro (fun hb => ?_) (fun hb => ?_) <;> simp only [decide_eq_true_eq, decide_eq_false_iff_not] at hb
    · rw [decide_eq_false (p := 0 ≤ (r, v).1) (by simp only; omega)] at h
      exact h
    · rintro c rfl
      rw [decide_eq_true (p := 0 ≤ (r, v).1) (by simp only; omega)] at h
      by_cases h8 : 8 ≤ r
      · rw [decide_eq_true h8]
        rw [decide_eq_false (p := (r, v).1 < 8) (by simp only; omega)] at h
        exact h
      · rw [decide_eq_false h8]
        rw [decide_eq_true (p := (r, v).1 < 8) (by simp only; omega)] at h
        exact h
  · exact h.elim
def C113 : Contract := fun args hp K => match args, hp with
  | [.sl p 16 (.pair (.int .i64) (.int .i64)) ev, .fn 86 []], [] => ∀ m : Int, ((ev : List EvT.den).all okEv = true → m = -1) → (ev.all okEv = false → 0 ≤ m) → K (.int .i64 m) []
  | _, _ => False
def L113 (p : Bool) (ev : List EvT.den) : LoopAnn := { G := Nat, I := fun i => ⟨[(0, .sl p 16 EvT ev), (1, .fn 86 []), (7, .int .i64 ev.length), (8, .int .i64 i)], []⟩, R := fun _ i => i ≤ ev.length ∧ (ev.take i).all okEv = true, μ := fun i => ev.length - i }
theorem L113_I {p ev} (i : Nat) : (L113 p ev).I i = ⟨[(0, .sl p 16 EvT ev), (1, .fn 86 []), (7, .int .i64 ev.length), (8, .int .i64 i)], []⟩ := rfl
theorem s113 : Sound Tryz.prog 113 C113 := by
  refine sound_of_okF ok113 (Γ := [(86, C86)]) (.cons s86 (callable_of_okF ok86) .nil) ?_
  intro args hp K h
  unfold C113 at h
  split at h
  · rename_i p ev
    refine ⟨by simp, [(1, L113 p ev)], ?_⟩
    simp (maxSteps := 2000000) only [a113, r113, go_sem, eq_self, and_self, Int.natCast_pos, Int.le_refl, Nat.le_refl, Int.natCast_nonneg, Int.ofNat_lt, Int.ofNat_le, Int.reduceLT, Int.reduceLE, Int.reduceEq, Int.reduceNe, Int.reduceAdd, Int.reduceSub, Int.reduceMul, Int.reduceToNat, Int.reduceNeg, Nat.reduceEqDiff, Nat.reduceLeDiff, Nat.reduceSub, Nat.reduceMul, Nat.reduceLT, Nat.reduceBEq, Nat.reduceAdd]
    rintro _ _ n rfl
    refine loop_intro (A := L113 p ev) (0 : Nat) ?_ ⟨Nat.zero_le _, by simp⟩ ?_
    · simp (maxSteps := 2000000) only [L113_I, go_sem, eq_self, and_self, Int.natCast_pos, Int.le_refl, Nat.le_refl, Int.natCast_nonneg, Int.ofNat_lt, Int.ofNat_le, Int.reduceLT, Int.reduceLE, Int.reduceEq, Int.reduceNe, Int.reduceAdd, Int.reduceSub, Int.reduceMul, Int.reduceToNat, Int.reduceNeg, Nat.reduceEqDiff, Nat.reduceLeDiff, Nat.reduceSub, Nat.reduceMul, Nat.reduceLT, Nat.reduceBEq, Nat.reduceAdd]
      rfl
    · intro (i : Nat) (hi : i ≤ ev.length ∧ (ev.take i).all okEv = true)
      obtain ⟨hi, ha⟩ := hi
      simp (maxSteps := 2000000) only [L113_I, C86, go_sem, eq_self, and_self, Int.natCast_pos, Int.le_refl, Nat.le_refl, Int.natCast_nonneg, Int.ofNat_lt, Int.ofNat_le, Int.reduceLT, Int.reduceLE, Int.reduceEq, Int.reduceNe, Int.reduceAdd, Int.reduceSub, Int.reduceMul, Int.reduceToNat, Int.reduceNeg, Nat.reduceEqDiff, Nat.reduceLeDiff, Nat.reduceSub, Nat.reduceMul, Nat.reduceLT, Nat.reduceBEq, Nat.reduceAdd]
      have := maxLen_val
      rintro c rfl
      refine sw_intro (fun hc => ?_) (fun hc => ?_) <;> simp only [decide_eq_true_eq, decide_eq_false_iff_not] at hc
      · refine nd_intro hc (sw_intro (fun hb => ?_) (fun hb => ?_))
        · rintro _ _ m hm
          rw [w64 (by omega)] at hm
          subst hm
          refine lpE_intro (A := L113 p ev) (i + 1 : Nat) ?_ ⟨hc, ?_⟩ (by show ev.length - (i + 1) < ev.length - i; omega)
          · simp (maxSteps := 2000000) only [L113_I, go_sem, eq_self, and_self, Int.natCast_pos, Int.le_refl, Nat.le_refl, Int.natCast_nonneg, Int.ofNat_lt, Int.ofNat_le, Int.reduceLT, Int.reduceLE, Int.reduceEq, Int.reduceNe, Int.reduceAdd, Int.reduceSub, Int.reduceMul, Int.reduceToNat, Int.reduceNeg, Nat.reduceEqDiff, Nat.reduceLeDiff, Nat.reduceSub, Nat.reduceMul, Nat.reduceLT, Nat.reduceBEq, Nat.reduceAdd]
            rfl
          · rw [← take_elt (t := EvT) hc, List.all_append, ha]
            simpa using hb
        · refine h _ (fun hall => ?_) (fun _ => by omega)
          have := List.all_eq_true.1 hall _ (List.mem_of_getElem? (elt_get (t := EvT) hc))
          rw [show okEv (elt EvT ev i) = okEv ((elt EvT ev i).1, (elt EvT ev i).2) from rfl, hb] at this
          cases this
      · obtain rfl : i = ev.length := by omega
        rw [List.take_length] at ha
        exact h _ (fun _ => rfl) (fun hf => by rw [ha] at hf; cases hf)
  · exact h.elim
def C85 : Contract := fun args hp K => match args, hp with
  | [.sl p 16 (.pair (.int .i64) (.int .i64)) ev, .fn 86 []], [] => K (.bool (!(ev : List EvT.den).all okEv)) []
  | _, _ => False
theorem s85 : Sound Tryz.prog 85 C85 := by
  refine sound_of_okF ok85 (Γ := [(113, C113)]) (.cons s113 (callable_of_okF ok113) .nil) ?_
  intro args hp K h
  unfold C85 at h
  split at h
  · rename_i p ev
    refine ⟨by simp, [], ?_⟩
    simp (maxSteps := 2000000) only [a85, r85, C113, go_sem, eq_self, and_self, Int.natCast_pos, Int.le_refl, Nat.le_refl, Int.natCast_nonneg, Int.ofNat_lt, Int.ofNat_le, Int.reduceLT, Int.reduceLE, Int.reduceEq, Int.reduceNe, Int.reduceAdd, Int.reduceSub, Int.reduceMul, Int.reduceToNat, Int.reduceNeg, Nat.reduceEqDiff, Nat.reduceLeDiff, Nat.reduceSub, Nat.reduceMul, Nat.reduceLT, Nat.reduceBEq, Nat.reduceAdd]
    rintro m h1 h2 c rfl
    cases ha : ev.all okEv with
    | true =>
      rw [ha] at h
      rw [h1 ha]
      exact h
    | false =>
      rw [ha] at h
      have := h2 ha
      rw [decide_eq_true this]
      exact h
  · exact h.elim

/-- fold -/
def C87 : Contract := fun args hp K => match args with
  | [.ptr 0 0, .int .i64 n] => onJ hp fun b ev v => (0 ≤ n ∧ n ≤ ev.length) ∧ b.length = 8 ∧ ev.all okEv = true ∧ K (.tup []) (jH true (appE b (ev.take n.toNat)) (ev.drop n.toNat) v)
  | _ => False
def L87 (b : List Int) (ev : List EvT.den) (v : Int) (n : Nat) : LoopAnn := { G := Nat, I := fun i => ⟨[(0, .ptr 0 0), (1, .int .i64 n), (11, .vw 1 0 n 2), (12, .int .i64 n), (13, .int .i64 i)], [.struct [.arr 8 (.int .i64) (appE b (ev.take i)), .own 1, .int .u64 v], .row false 16 EvT ev]⟩, R := fun _ i => i ≤ n, μ := fun i => n - i }
theorem L87_I {b ev v n} (i : Nat) : (L87 b ev v n).I i = ⟨[(0, .ptr 0 0), (1, .int .i64 n), (11, .vw 1 0 n 2), (12, .int .i64 n), (13, .int .i64 i)], [.struct [.arr 8 (.int .i64) (appE b (ev.take i)), .own 1, .int .u64 v], .row false 16 EvT ev]⟩ := rfl
theorem s87 : Sound Tryz.prog 87 C87 := by
  refine sound_of_okF ok87 (Γ := [(114, C114)]) (.cons s114 (callable_of_okF ok114) .nil) ?_
  intro args hp K h
  unfold C87 at h
  split at h
  · rename_i n
    obtain ⟨b, ev, v, rfl, hn, hb, hok, h⟩ := h
    refine ⟨by simp, [(1, L87 b ev v n.toNat)], ?_⟩
    unfold jH at h ⊢
    simp (maxSteps := 2000000) only [a87, r87, C114, go_sem, eq_self, and_self, Int.natCast_pos, Int.le_refl, Nat.le_refl, Int.natCast_nonneg, Int.ofNat_lt, Int.ofNat_le, Int.reduceLT, Int.reduceLE, Int.reduceEq, Int.reduceNe, Int.reduceAdd, Int.reduceSub, Int.reduceMul, Int.reduceToNat, Int.reduceNeg, Nat.reduceEqDiff, Nat.reduceLeDiff, Nat.reduceSub, Nat.reduceMul, Nat.reduceLT, Nat.reduceBEq, Nat.reduceAdd]
    refine nd_intro hn ?_
    obtain ⟨n, rfl⟩ := Int.eq_ofNat_of_zero_le hn.1
    simp only [Int.toNat_natCast, Nat.sub_zero] at h ⊢
    have hl : (List.take n ev).length = n := by rw [List.length_take]; omega
    rw [hl]
    rintro _ _ m rfl
    refine loop_intro (A := L87 b ev v n) (0 : Nat) ?_ (Nat.zero_le _) ?_
    · simp (maxSteps := 2000000) only [L87_I, go_sem, eq_self, and_self, Int.natCast_pos, Int.le_refl, Nat.le_refl, Int.natCast_nonneg, Int.ofNat_lt, Int.ofNat_le, Int.reduceLT, Int.reduceLE, Int.reduceEq, Int.reduceNe, Int.reduceAdd, Int.reduceSub, Int.reduceMul, Int.reduceToNat, Int.reduceNeg, Nat.reduceEqDiff, Nat.reduceLeDiff, Nat.reduceSub, Nat.reduceMul, Nat.reduceLT, Nat.reduceBEq, Nat.reduceAdd]
      rfl
    · intro (i : Nat) (hi : i ≤ n)
      simp (maxSteps := 2000000) only [L87_I, C114, go_sem, eq_self, and_self, Int.natCast_pos, Int.le_refl, Nat.le_refl, Int.natCast_nonneg, Int.ofNat_lt, Int.ofNat_le, Int.reduceLT, Int.reduceLE, Int.reduceEq, Int.reduceNe, Int.reduceAdd, Int.reduceSub, Int.reduceMul, Int.reduceToNat, Int.reduceNeg, Nat.reduceEqDiff, Nat.reduceLeDiff, Nat.reduceSub, Nat.reduceMul, Nat.reduceLT, Nat.reduceBEq, Nat.reduceAdd]
      have := maxLen_val
      rintro c rfl
      refine sw_intro (fun hc => ?_) (fun hc => ?_) <;> simp only [decide_eq_true_eq, decide_eq_false_iff_not] at hc
      · have hlt : i < ev.length := by omega
        have hx : okEv (elt EvT ev i) = true := List.all_eq_true.1 hok _ (List.mem_of_getElem? (elt_get (t := EvT) hlt))
        unfold okEv at hx
        simp only [Bool.and_eq_true, decide_eq_true_eq] at hx
        refine nd_intro ⟨by omega, by omega⟩ (nd_intro hlt (nd_intro hx (nd_intro (toNat_lt8 hx) ?_)))
        rintro _ _ m hm
        rw [w64 (by omega)] at hm
        subst hm
        refine lpE_intro (A := L87 b ev v n) (i + 1 : Nat) ?_ hc (by show n - (i + 1) < n - i; omega)
        simp (maxSteps := 2000000) only [L87_I, go_sem, eq_self, and_self, Int.natCast_pos, Int.le_refl, Nat.le_refl, Int.natCast_nonneg, Int.ofNat_lt, Int.ofNat_le, Int.reduceLT, Int.reduceLE, Int.reduceEq, Int.reduceNe, Int.reduceAdd, Int.reduceSub, Int.reduceMul, Int.reduceToNat, Int.reduceNeg, Nat.reduceEqDiff, Nat.reduceLeDiff, Nat.reduceSub, Nat.reduceMul, Nat.reduceLT, Nat.reduceBEq, Nat.reduceAdd]
        rw [← take_elt (t := EvT) hlt, appE_snoc]
        rfl
      · obtain rfl : i = n := by omega
        refine nd_intro (by omega) ?_
        rw [List.take_of_length_le (l := ev.drop i) (by rw [List.length_drop]; exact Nat.le_refl _)]
        exact h
  · exact h.elim
/-- The journal behind more events. -/
def jAdd (b : List Int) (ev l : List EvT.den) : List Int × List EvT.den := (appE b ((ev ++ l).take ((ev ++ l).length - 16)), (ev ++ l).drop ((ev ++ l).length - 16))
/-- Add -/
def C26 : Contract := fun args hp K => match args with
  | [.ptr 0 0, .sl p 16 (.pair (.int .i64) (.int .i64)) l] => onJ hp fun b ev v => b.length = 8 ∧ ev.all okEv = true ∧ ev.length ≤ 16 ∧ l.length ≤ 1000000 ∧
      ((l : List EvT.den).all okEv = false → K (.int .i64 3) hp) ∧
      ((l : List EvT.den).all okEv = true → K (.int .i64 0) (jH true (jAdd b ev l).1 (jAdd b ev l).2 (IntKind.u64.wrap (v + (l.length : Nat)))))
  | _ => False
theorem s26 : Sound Tryz.prog 26 C26 := by
  refine sound_of_okF ok26 (Γ := [(85, C85), (87, C87)]) (.cons s85 (callable_of_okF ok85) (.cons s87 (callable_of_okF ok87) .nil)) ?_
  intro args hp K h
  unfold C26 at h
  split at h
  · rename_i p l
    obtain ⟨b, ev, v, rfl, hb, hok, hl, hl2, h1, h2⟩ := h
    refine ⟨by simp, [], ?_⟩
    unfold jH at h1 h2 ⊢
    simp (maxSteps := 2000000) only [a26, r26, C85, C87, jH, go_sem, eq_self, and_self, Int.natCast_pos, Int.le_refl, Nat.le_refl, Int.natCast_nonneg, Int.ofNat_lt, Int.ofNat_le, Int.reduceLT, Int.reduceLE, Int.reduceEq, Int.reduceNe, Int.reduceAdd, Int.reduceSub, Int.reduceMul, Int.reduceToNat, Int.reduceNeg, Nat.reduceEqDiff, Nat.reduceLeDiff, Nat.reduceSub, Nat.reduceMul, Nat.reduceLT, Nat.reduceBEq, Nat.reduceAdd]
    have := maxLen_val
    refine sw_intro (fun ha => ⟨fun _ _ => by omega, ?_⟩) (fun ha => h1 ha)
    rintro _ _ _ m rfl _ m1 hm1 _ _ m2 hm2 _ _ m3 rfl _ _ m4 hm4 m5 hm5
    rw [wu64 (by omega)] at hm1
    subst hm1
    have hlen : (ev ++ l).length = ev.length + l.length := List.length_append
    rw [hlen] at hm4
    rw [w64 (by omega)] at hm4
    have hm5' : m5 = ((ev.length + l.length - 16 : Nat) : Int) := by
      rw [hm5, hm4]; split <;> omega
    subst hm5'
    refine ⟨⟨by omega, by rw [hlen]; omega⟩, hb, by rw [List.all_append, hok, ha]; rfl, ?_⟩
    have h2 := h2 ha
    unfold jAdd at h2
    rw [hlen] at h2
    rw [hm2, Int.toNat_natCast]
    exact h2
  · exact h.elim
/-- drop -/
def C88 : Contract := fun args hp K => match args with
  | [.ptr 0 0] => onJ hp fun b ev v => b.length = 8 ∧ ∃ x r, ev = x :: r ∧ okEv x = true ∧ K (.tup []) (jH true (b.set x.1.toNat x.2) r v)
  | _ => False
theorem s88 : Sound Tryz.prog 88 C88 := by
  refine sound_of_okF ok88 (Γ := []) .nil ?_
  intro args hp K h
  unfold C88 at h
  split at h
  · obtain ⟨b, ev, v, rfl, hb, x, r, rfl, hx, h⟩ := h
    refine ⟨by simp, [], ?_⟩
    unfold jH at h ⊢
    simp (maxSteps := 2000000) only [a88, r88, go_sem, eq_self, and_self, Int.natCast_pos, Int.le_refl, Nat.le_refl, Int.natCast_nonneg, Int.ofNat_lt, Int.ofNat_le, Int.reduceLT, Int.reduceLE, Int.reduceEq, Int.reduceNe, Int.reduceAdd, Int.reduceSub, Int.reduceMul, Int.reduceToNat, Int.reduceNeg, Nat.reduceEqDiff, Nat.reduceLeDiff, Nat.reduceSub, Nat.reduceMul, Nat.reduceLT, Nat.reduceBEq, Nat.reduceAdd]
    have e0 : elt EvT (x :: r) 0 = x := rfl
    have hx2 := hx
    unfold okEv at hx2
    simp only [Bool.and_eq_true, decide_eq_true_eq] at hx2
    rw [e0]
    refine nd_intro (by omega) (nd_intro hx2 (nd_intro (toNat_lt8 hx2) (nd_intro (by omega) ⟨id, fun _ => ?_⟩)))
    rw [List.take_of_length_le (by omega)]
    exact h
  · exact h.elim
theorem jAdd_step (b : List Int) (ev l : List EvT.den) (x : EvT.den) (h : ev.length ≤ 16) : 
    (((jAdd b ev l).2 ++ [x]).length ≤ 16 → jAdd b ev (l ++ [x]) = ((jAdd b ev l).1, (jAdd b ev l).2 ++ [x])) ∧
    (16 < ((jAdd b ev l).2 ++ [x]).length → ∃ y r, (jAdd b ev l).2 ++ [x] = y :: r ∧ jAdd b ev (l ++ [x]) = ((jAdd b ev l).1.set y.1.toNat y.2, r)) := by
  unfold jAdd
  simp only [← List.append_assoc]
  generalize hE : ev ++ l = E
  have hd : (E.drop (E.length - 16) ++ [x]) = (E ++ [x]).drop (E.length - 16) := by
    rw [List.drop_append_of_le_length (by omega)]
  have ht : E.take (E.length - 16) = (E ++ [x]).take (E.length - 16) := by
    rw [List.take_append_of_le_length (by omega)]
  have hl : (E ++ [x]).length = E.length + 1 := by simp
  rw [hd, ht]
  generalize hF : E ++ [x] = F at *
  refine ⟨fun h => ?_, fun h => ?_⟩
  · rw [List.length_drop] at h
    have e : F.length - 16 = E.length - 16 := by omega
    rw [e]
  · rw [List.length_drop] at h
    have e : F.length - 16 = E.length - 16 + 1 := by omega
    have hlt : E.length - 16 < F.length := by omega
    refine ⟨F[E.length - 16], F.drop (E.length - 16 + 1), List.drop_eq_getElem_cons hlt, ?_⟩
    rw [e, ← List.take_append_getElem hlt, appE_snoc]
theorem jAdd_len (b : List Int) (ev l : List EvT.den) : (jAdd b ev l).2.length ≤ 16 ∧ (jAdd b ev l).1.length = b.length := by
  unfold jAdd
  refine ⟨?_, appE_length _ _⟩
  simp only [List.length_drop]; omega
theorem jAdd_ok {b : List Int} {ev l : List EvT.den} (h1 : ev.all okEv = true) (h2 : l.all okEv = true) : (jAdd b ev l).2.all okEv = true := by
  unfold jAdd
  rw [List.all_eq_true] at *
  intro x hx
  rcases List.mem_append.1 (List.mem_of_mem_drop hx) with h | h
  · exact h1 x h
  · exact h2 x h
theorem jAdd_nil (b : List Int) (ev : List EvT.den) (h : ev.length ≤ 16) : jAdd b ev [] = (b, ev) := by
  unfold jAdd
  rw [List.append_nil, show ev.length - 16 = 0 by omega]
  rfl
/-- Add, of the document -/
def C27 : Contract := fun args hp K => match args with
  | [.ptr 0 0, .sl p 16 (.pair (.int .i64) (.int .i64)) l] => onJ hp fun b ev v => b.length = 8 ∧ ev.all okEv = true ∧ ev.length ≤ 16 ∧ (0 ≤ v ∧ v + l.length ≤ 18446744073709551615) ∧
      ((l : List EvT.den).all okEv = false → K (.int .i64 3) hp) ∧
      ((l : List EvT.den).all okEv = true → K (.int .i64 0) (jH true (jAdd b ev l).1 (jAdd b ev l).2 (v + (l.length : Nat))))
  | _ => False
def L27 (p : Bool) (l : List EvT.den) (b : List Int) (ev : List EvT.den) (v : Int) : LoopAnn := { G := Nat, I := fun i => ⟨[(0, .ptr 0 0), (1, .sl p 16 EvT l), (8, .int .i64 l.length), (9, .int .i64 i)], jH false b ev v⟩, R := fun _ i => i ≤ l.length ∧ (l.take i).all okEv = true, μ := fun i => l.length - i }
theorem L27_I {p l b ev v} (i : Nat) : (L27 p l b ev v).I i = ⟨[(0, .ptr 0 0), (1, .sl p 16 EvT l), (8, .int .i64 l.length), (9, .int .i64 i)], jH false b ev v⟩ := rfl
def M27 (p : Bool) (l : List EvT.den) (b : List Int) (ev : List EvT.den) (v : Int) : LoopAnn := { G := Nat, I := fun i => ⟨[(0, .ptr 0 0), (1, .sl p 16 EvT l), (28, .int .i64 l.length), (29, .int .i64 i)], jH true (jAdd b ev (l.take i)).1 (jAdd b ev (l.take i)).2 (v + (i : Nat))⟩, R := fun _ i => i ≤ l.length, μ := fun i => l.length - i }
theorem M27_I {p l b ev v} (i : Nat) : (M27 p l b ev v).I i = ⟨[(0, .ptr 0 0), (1, .sl p 16 EvT l), (28, .int .i64 l.length), (29, .int .i64 i)], jH true (jAdd b ev (l.take i)).1 (jAdd b ev (l.take i)).2 (v + (i : Nat))⟩ := rfl
theorem s27 : Sound Tryz.prog 27 C27 := by
  refine sound_of_okF ok27 (Γ := [(88, C88)]) (.cons s88 (callable_of_okF ok88) .nil) ?_
  intro args hp K h
  unfold C27 at h
  split at h
  · rename_i p l
    obtain ⟨b, ev, v, rfl, hb, hok, hl, hv, h1, h2⟩ := h
    refine ⟨by simp, [(1, L27 p l b ev v), (2, M27 p l b ev v)], ?_⟩
    unfold jH at h1 h2 ⊢
    simp (maxSteps := 2000000) only [a27, r27, go_sem, eq_self, and_self, Int.natCast_pos, Int.le_refl, Nat.le_refl, Int.natCast_nonneg, Int.ofNat_lt, Int.ofNat_le, Int.reduceLT, Int.reduceLE, Int.reduceEq, Int.reduceNe, Int.reduceAdd, Int.reduceSub, Int.reduceMul, Int.reduceToNat, Int.reduceNeg, Nat.reduceEqDiff, Nat.reduceLeDiff, Nat.reduceSub, Nat.reduceMul, Nat.reduceLT, Nat.reduceBEq, Nat.reduceAdd]
    have := maxLen_val
    rintro _ _ m rfl
    refine loop_intro (A := L27 p l b ev v) (0 : Nat) ?_ ⟨Nat.zero_le _, by simp⟩ ?_
    · simp (maxSteps := 2000000) only [L27_I, jH, go_sem, eq_self, and_self, Int.natCast_pos, Int.le_refl, Nat.le_refl, Int.natCast_nonneg, Int.ofNat_lt, Int.ofNat_le, Int.reduceLT, Int.reduceLE, Int.reduceEq, Int.reduceNe, Int.reduceAdd, Int.reduceSub, Int.reduceMul, Int.reduceToNat, Int.reduceNeg, Nat.reduceEqDiff, Nat.reduceLeDiff, Nat.reduceSub, Nat.reduceMul, Nat.reduceLT, Nat.reduceBEq, Nat.reduceAdd]
      rfl
    · intro (i : Nat) (hi : i ≤ l.length ∧ (l.take i).all okEv = true)
      obtain ⟨hi, ha⟩ := hi
      simp (maxSteps := 2000000) only [L27_I, jH, go_sem, eq_self, and_self, Int.natCast_pos, Int.le_refl, Nat.le_refl, Int.natCast_nonneg, Int.ofNat_lt, Int.ofNat_le, Int.reduceLT, Int.reduceLE, Int.reduceEq, Int.reduceNe, Int.reduceAdd, Int.reduceSub, Int.reduceMul, Int.reduceToNat, Int.reduceNeg, Nat.reduceEqDiff, Nat.reduceLeDiff, Nat.reduceSub, Nat.reduceMul, Nat.reduceLT, Nat.reduceBEq, Nat.reduceAdd]
      rintro c rfl
      refine sw_intro (fun hc => ?_) (fun hc => ?_) <;> simp only [decide_eq_true_eq, decide_eq_false_iff_not] at hc
      · have hx : (elt EvT l i) ∈ l := List.mem_of_getElem? (elt_get (t := EvT) hc)
        have bad : okEv (elt EvT l i) = false → l.all okEv = false := fun hb => by
          cases ht : l.all okEv with
          | false => rfl
          | true => rw [List.all_eq_true.1 ht _ hx] at hb; cases hb
        refine nd_intro hc ?_
        rintro c rfl
        refine sw_intro (fun h0 => ?_) (fun h0 => ?_) <;> simp only [decide_eq_true_eq, decide_eq_false_iff_not] at h0
        · exact h1 (bad (by unfold okEv; rw [decide_eq_false (p := 0 ≤ (elt EvT l i).1) (fun hh => Int.not_lt.2 hh h0)]; rfl))
        · refine nd_intro hc ?_
          rintro c rfl
          refine sw_intro (fun h7 => ?_) (fun h7 => ?_) <;> simp only [decide_eq_true_eq, decide_eq_false_iff_not] at h7
          · exact h1 (bad (by unfold okEv; rw [decide_eq_false (p := (elt EvT l i).1 < 8) (lt8_of h7)]; simp))
          · rintro _ _ m hm
            rw [w64 (by omega)] at hm
            subst hm
            refine lpE_intro (A := L27 p l b ev v) (i + 1 : Nat) ?_ ⟨hc, ?_⟩ (by show l.length - (i + 1) < l.length - i; omega)
            · simp (maxSteps := 2000000) only [L27_I, jH, go_sem, eq_self, and_self, Int.natCast_pos, Int.le_refl, Nat.le_refl, Int.natCast_nonneg, Int.ofNat_lt, Int.ofNat_le, Int.reduceLT, Int.reduceLE, Int.reduceEq, Int.reduceNe, Int.reduceAdd, Int.reduceSub, Int.reduceMul, Int.reduceToNat, Int.reduceNeg, Nat.reduceEqDiff, Nat.reduceLeDiff, Nat.reduceSub, Nat.reduceMul, Nat.reduceLT, Nat.reduceBEq, Nat.reduceAdd]
              rfl
            · rw [← take_elt (t := EvT) hc, List.all_append, ha]
              have : okEv (elt EvT l i) = true := by
                unfold okEv
                rw [decide_eq_true (p := 0 ≤ (elt EvT l i).1) (Int.not_lt.1 h0), decide_eq_true (p := (elt EvT l i).1 < 8) (lt8_of2 h7)]
                rfl
              simp [this]
      · obtain rfl : i = l.length := by omega
        rw [List.take_length] at ha
        have h2 := h2 ha
        rintro _ _ m rfl
        refine loop_intro (A := M27 p l b ev v) (0 : Nat) ?_ (Nat.zero_le _) ?_
        · simp (maxSteps := 2000000) only [M27_I, jH, go_sem, eq_self, and_self, Int.natCast_pos, Int.le_refl, Nat.le_refl, Int.natCast_nonneg, Int.ofNat_lt, Int.ofNat_le, Int.reduceLT, Int.reduceLE, Int.reduceEq, Int.reduceNe, Int.reduceAdd, Int.reduceSub, Int.reduceMul, Int.reduceToNat, Int.reduceNeg, Nat.reduceEqDiff, Nat.reduceLeDiff, Nat.reduceSub, Nat.reduceMul, Nat.reduceLT, Nat.reduceBEq, Nat.reduceAdd]
          rw [List.take_zero, jAdd_nil b ev hl]
          rw [show v + ((0 : Nat) : Int) = v by omega]
          rfl
        · intro (i : Nat) (hi : i ≤ l.length)
          simp (maxSteps := 2000000) only [M27_I, jH, C88, go_sem, eq_self, and_self, Int.natCast_pos, Int.le_refl, Nat.le_refl, Int.natCast_nonneg, Int.ofNat_lt, Int.ofNat_le, Int.reduceLT, Int.reduceLE, Int.reduceEq, Int.reduceNe, Int.reduceAdd, Int.reduceSub, Int.reduceMul, Int.reduceToNat, Int.reduceNeg, Nat.reduceEqDiff, Nat.reduceLeDiff, Nat.reduceSub, Nat.reduceMul, Nat.reduceLT, Nat.reduceBEq, Nat.reduceAdd]
          rintro c rfl
          refine sw_intro (fun hc => ?_) (fun hc => ?_) <;> simp only [decide_eq_true_eq, decide_eq_false_iff_not] at hc
          · have jl := jAdd_len b ev (l.take i)
            have st := jAdd_step b ev (l.take i) (elt EvT l i) hl
            rw [take_elt (t := EvT) hc] at st
            have hxs : ((elt EvT l i).1, (elt EvT l i).2) = elt EvT l i := rfl
            rw [hxs]
            generalize elt EvT l i = x at *
            have hok2 := jAdd_ok (b := b) (l := l.take (i + 1)) hok (by rw [List.all_eq_true] at *; exact fun y hy => ha y (List.mem_of_mem_take hy))
            have hokx := jAdd_ok (b := b) (l := l.take i) hok (by rw [List.all_eq_true] at *; exact fun y hy => ha y (List.mem_of_mem_take hy))
            generalize hJ : jAdd b ev (l.take i) = J at *
            have hJ1 : (J.2 ++ [x]).length = J.2.length + 1 := by simp
            have hjl := jl.1
            refine nd_intro hc ⟨fun _ => by omega, ?_⟩
            rintro _ _ _ m hm _ _ m1 rfl c rfl
            rw [wu64 (by omega)] at hm
            subst hm
            have ev2 : v + (i : Int) + 1 = v + ((i + 1 : Nat) : Int) := by omega
            refine sw_intro (fun hg => ?_) (fun hg => ?_) <;> simp only [decide_eq_true_eq, decide_eq_false_iff_not] at hg
            · obtain ⟨y, r, hy, hj⟩ := st.2 (by omega)
              refine ⟨by rw [jl.2, hb], y, r, hy, ?_, ?_⟩
              · have hm : y ∈ J.2 ++ [x] := by rw [hy]; exact List.mem_cons_self
                have hne : J.2 ≠ [] := fun h9 => by have h8 : J.2.length = 0 := by rw [h9]; rfl
                                                    omega
                obtain ⟨z, r2, hz⟩ := List.exists_cons_of_ne_nil hne
                rw [hz, List.cons_append] at hy
                injection hy with hy1 _
                rw [← hy1]
                exact List.all_eq_true.1 hokx z (by rw [hz]; exact List.mem_cons_self)
              · rintro _ _ m hm
                rw [w64 (by omega)] at hm
                subst hm
                refine lpE_intro (A := M27 p l b ev v) (i + 1 : Nat) ?_ hc (by show l.length - (i + 1) < l.length - i; omega)
                simp (maxSteps := 2000000) only [M27_I, jH, go_sem, eq_self, and_self, Int.natCast_pos, Int.le_refl, Nat.le_refl, Int.natCast_nonneg, Int.ofNat_lt, Int.ofNat_le, Int.reduceLT, Int.reduceLE, Int.reduceEq, Int.reduceNe, Int.reduceAdd, Int.reduceSub, Int.reduceMul, Int.reduceToNat, Int.reduceNeg, Nat.reduceEqDiff, Nat.reduceLeDiff, Nat.reduceSub, Nat.reduceMul, Nat.reduceLT, Nat.reduceBEq, Nat.reduceAdd]
                rw [hj, ev2]
                rfl
            · have hj := st.1 (by omega)
              rintro _ _ m hm
              rw [w64 (by omega)] at hm
              subst hm
              refine lpE_intro (A := M27 p l b ev v) (i + 1 : Nat) ?_ hc (by show l.length - (i + 1) < l.length - i; omega)
              simp (maxSteps := 2000000) only [M27_I, jH, go_sem, eq_self, and_self, Int.natCast_pos, Int.le_refl, Nat.le_refl, Int.natCast_nonneg, Int.ofNat_lt, Int.ofNat_le, Int.reduceLT, Int.reduceLE, Int.reduceEq, Int.reduceNe, Int.reduceAdd, Int.reduceSub, Int.reduceMul, Int.reduceToNat, Int.reduceNeg, Nat.reduceEqDiff, Nat.reduceLeDiff, Nat.reduceSub, Nat.reduceMul, Nat.reduceLT, Nat.reduceBEq, Nat.reduceAdd]
              rw [hj, ev2]
              rfl
          · obtain rfl : i = l.length := by omega
            rw [List.take_length]
            exact h2
  · exact h.elim
end Go.V
